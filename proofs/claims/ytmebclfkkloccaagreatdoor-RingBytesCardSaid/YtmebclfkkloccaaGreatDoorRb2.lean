/- The walks of the reader of bytes, laid. Written by wip/shade/sk.py from wip/rb/rb2.plan. -/
import Derived.Test.YtmebclfkkloccaaGreatDoorLibC
import Derived.Test.YtmebclfkkloccaaGreatDoorRb1
namespace Go.Proofs.YtmebclfkkloccaaGreatDoor
open Go.Shade
set_option maxRecDepth 100000
set_option linter.unusedVariables false
set_option linter.unusedSimpArgs false
theorem wireNew_ok {lf : Nat} {a : Option Addr} {m code : Nat} {l : List Nat} (c : Cx) (H : Tr AObj) (hs : Sl c.R c.n0 H 1 a m code (u8s l)) (hm : m ≤ 2 ^ 30) :
    FnOK Tryz.prog lf 1 62 [.slice a m code] c H (fun v n' H' => ∃ br, v = .pointer (some ⟨br, 0, none⟩) ∧ Rdr c.n0 n' H' br l 0 0) := by
  have hlen : l.length = m := by simpa [u8s_length] using hs.length
  refine fn_enter Tryz.func62 rfl fun d hd => ?_   -- spyglass/wire.New params [46] results [120]
  refine go_seq ?_
  refine go_region ?_   -- region 0 wire.go:45
  refine go_assign rfl rfl rfl rfl rfl rfl  ?_
  refine go_end ?_
  refine gon_seq ?_
  refine go_seq ?_
  refine go_region ?_   -- region 1 wire.go:45
  refine go_move rfl rfl rfl rfl rfl rfl  ?_
  refine go_appendN rfl rfl rfl rfl rfl rfl rfl rfl (.inl ⟨_, und_S_uint8⟩) eltA_S_uint8 rfl rfl (hs.rd (fun b h _ => .inl h))
    .nil rfl (u8s_one _) (by decide) (by decide) (by decide) (by omega) (by simp [u8s_length, hlen]) (Nat.le_refl _) (Nat.le_refl _) (fun a2 code2 n2 H2 hle2 hfr2 hnew2 hblk2 => ?_)
  refine go_build rfl rfl rfl rfl rfl  zer_wire_Reader bld_wire_Reader rfl rfl ?_
  refine go_box rfl rfl rfl rfl rfl rfl rfl ?_
  refine go_assign rfl rfl rfl rfl rfl rfl  ?_
  refine go_end ?_
  refine gon_seq ?_
  refine go_ret ?_
  refine go_result ?_
  refine gov_tmp rfl ?_
  refine gov_nil ?_
  refine ⟨n2, rfl, ⟨a2, code2, ?_, ?_⟩, hle2, Nat.lt_succ_self _, Nat.zero_le _⟩
  · rw [Tr.get_set_eq, hlen, Nat.zero_add]; rfl
  · rw [hlen]
    rw [Nat.zero_add] at hnew2
    have := hnew2.sl (R := fun b => c.n0 ≤ b ∧ b < n2) (fun b h1 h2 => ⟨h1, h2⟩)
    exact this.frame (Nat.le_succ _) (fun b h => ⟨h.1, by omega, by omega⟩) (fun b h _ => Tr.get_set_ne _ _ (by omega))
theorem rdrNum_ok {lf : Nat} (hlf : 2 ^ 17 ≤ lf) {lo br : Nat} {l : List Nat} {s : RS} {k : Int} (hk : -9223372036854775808 ≤ k ∧ k < 9223372036854775808) (c : Cx) (H : Tr AObj) (hr : Rdr lo c.n0 H br l s.at' s.err) (hl : l.length ≤ 2 ^ 20) (hby : ∀ x ∈ l, x < 256)
    (hR : ∀ b, lo ≤ b → b < c.n0 → c.R b) (hW : c.W br) :
    FnOK Tryz.prog lf 1 63 [.pointer (some ⟨br, 0, none⟩), .int .i64 k] c H (fun v n' H' => v = .int .u64 ((rNum l k s).1 : Int) ∧ Rdr lo n' H' br l (rNum l k s).2.at' (rNum l k s).2.err) := by
  obtain ⟨⟨a, code, hcell, hsl⟩, hlo, hhi, hle⟩ := hr
  refine fn_enter Tryz.func63 rfl fun d hd => ?_   -- (*spyglass/wire.Reader).Num params [120, 3] results [45]
  refine go_seq ?_
  refine go_region ?_   -- region 0 wire.go:48
  refine go_assign rfl rfl rfl rfl rfl rfl  ?_
  refine go_end ?_
  refine gon_seq ?_
  refine go_seq ?_
  refine go_block ?_
  refine go_seq ?_
  refine go_region ?_   -- region 1 wire.go:50
  refine go_move rfl rfl rfl rfl rfl rfl  ?_
  refine go_ptrEqNil rfl rfl rfl rfl rfl rfl rfl und_P_wire_Reader ?_
  refine go_move rfl rfl rfl rfl rfl rfl  ?_
  refine go_moveG rfl rfl rfl rfl rfl rfl rfl rfl rfl rfl (fun _ => rfl)  ?_
  refine go_nilCheckG rfl rfl rfl rfl rfl rfl rfl rfl rfl rfl (fun h => h)  ?_
  refine go_fieldAddrG rfl rfl rfl rfl rfl rfl rfl rfl rfl rfl (fun h => h) fo_wire_Reader_2 ?_
  refine go_loadG rfl rfl rfl rfl rfl rfl rfl rfl rfl rfl (fun h => h) agg_api_Errno (fun _ => .inr hW) (fun _ => ⟨hhi, _, _, _, _, hcell, rfl⟩) ?_
  refine go_binG rfl rfl rfl rfl rfl rfl rfl rfl rfl rfl (fun h => h) rfl (fun _ => rfl) rfl i_neq ?_
  refine go_pick_or rfl rfl rfl rfl rfl rfl rfl rfl (fun h => pick_r rfl h) ?_
  refine go_assign rfl rfl rfl rfl rfl rfl  ?_
  refine go_end ?_
  refine gon_seq ?_
  refine go_cond rfl (fun hc1 => ?_) (fun hc1 => ?_)
  · skip
    refine go_seq ?_
    refine go_region ?_   -- region 2 wire.go:51
    refine go_assign rfl rfl rfl rfl rfl rfl  ?_
    refine go_end ?_
    refine gon_seq ?_
    refine go_ret ?_
    refine go_result ?_
    refine gov_tmp rfl ?_
    refine gov_nil ?_
    have he : s.err ≠ 0 := by simp at hc1; omega
    have : rNum l k s = (0, s) := by simp [rNum, he]
    rw [this]
    exact ⟨rfl, ⟨a, code, hcell, hsl⟩, hlo, hhi, hle⟩
  · skip
    refine go_seq ?_
    refine go_region ?_   -- region 3 wire.go:52
    refine go_move rfl rfl rfl rfl rfl rfl  ?_
    refine go_bin rfl rfl rfl rfl rfl rfl rfl rfl i_lss ?_
    refine go_move rfl rfl rfl rfl rfl rfl  ?_
    refine go_moveG rfl rfl rfl rfl rfl rfl rfl rfl rfl rfl (fun _ => rfl)  ?_
    refine go_binG rfl rfl rfl rfl rfl rfl rfl rfl rfl rfl (fun h => h) rfl (fun _ => rfl) rfl i_gtr ?_
    refine go_pick_or rfl rfl rfl rfl rfl rfl rfl rfl (fun h => pick_r rfl h) ?_
    refine go_assign rfl rfl rfl rfl rfl rfl  ?_
    refine go_end ?_
    refine gon_seq ?_
    have he : s.err = 0 := by simp at hc1; omega
    rw [he] at hcell
    refine go_cond rfl (fun hc2 => ?_) (fun hc2 => ?_)
    · skip
      refine go_seq ?_
      refine go_region ?_   -- region 4 wire.go:53
      refine go_move rfl rfl rfl rfl rfl rfl  ?_
      refine go_nilCheck rfl rfl rfl rfl rfl rfl  ?_
      refine go_fieldAddr rfl rfl rfl rfl rfl rfl fo_wire_Reader_2 ?_
      refine go_store rfl rfl rfl rfl rfl siz_api_Errno rfl (by omega) (by repeat (first | assumption | exact Tr.get_set_eq _ _ _ | rw [Tr.get_set_ne _ _ (by omega)])) rfl rfl (fun h => by first | exact absurd h (by simp only [Nat.not_lt]; omega) | assumption) ?_
      refine go_end ?_
      refine gon_seq ?_
      refine go_seq ?_
      refine go_region ?_   -- region 5 wire.go:54
      refine go_assign rfl rfl rfl rfl rfl rfl  ?_
      refine go_end ?_
      refine gon_seq ?_
      refine go_ret ?_
      refine go_result ?_
      refine gov_tmp rfl ?_
      refine gov_nil ?_
      have hkk : k < 1 ∨ k > 8 := by simp at hc2; omega
      have : rNum l k s = (0, ⟨s.at', 1⟩) := by simp [rNum, he, hkk]
      rw [this]
      exact ⟨rfl, Rdr.mk' (Tr.get_set_eq _ _ _) hsl (fun b hb => Tr.get_set_ne _ _ hb) rfl rfl hlo hhi hle⟩
    · skip
      refine go_seq ?_
      refine go_region ?_   -- region 6 DRAW wire.go:55
      refine go_moveD rfl rfl rfl rfl rfl rfl  ?_
      refine go_nilCheckD rfl rfl rfl rfl rfl rfl  ?_
      refine go_fieldAddrD rfl rfl rfl rfl rfl rfl fo_wire_Reader_0 ?_
      obtain ⟨q, rfl, hq1, hq8⟩ : ∃ q : Nat, k = (q : Int) ∧ 1 ≤ q ∧ q ≤ 8 := by
        simp at hc2; exact ⟨k.toNat, by omega, by omega, by omega⟩
      have hkk : ¬ ((q : Int) < 1 ∨ (q : Int) > 8) := by omega
      refine go_loadD rfl rfl rfl rfl rfl rfl agg_S_uint8 (by omega) (by repeat (first | assumption | exact Tr.get_set_eq _ _ _ | rw [Tr.get_set_ne _ _ (by omega)])) rfl (fun h => by first | exact absurd h (by simp only [Nat.not_lt]; omega) | exact .inl (by assumption) | exact .inr (by assumption)) ?_
      refine go_lenD rfl rfl rfl rfl rfl  rfl rfl rfl und_S_uint8 ?_
      refine go_moveD rfl rfl rfl rfl rfl rfl  ?_
      refine go_nilCheckD rfl rfl rfl rfl rfl rfl  ?_
      refine go_fieldAddrD rfl rfl rfl rfl rfl rfl fo_wire_Reader_1 ?_
      refine go_loadD rfl rfl rfl rfl rfl rfl agg_int (by omega) (by repeat (first | assumption | exact Tr.get_set_eq _ _ _ | rw [Tr.get_set_ne _ _ (by omega)])) rfl (fun h => by first | exact absurd h (by simp only [Nat.not_lt]; omega) | exact .inl (by assumption) | exact .inr (by assumption)) ?_
      refine go_binD rfl rfl rfl rfl rfl rfl rfl rfl (i_sub' (wrap_i64 (by omega) (by omega))) ?_
      refine go_moveD rfl rfl rfl rfl rfl rfl  ?_
      refine go_binD rfl rfl rfl rfl rfl rfl rfl rfl i_lss ?_
      refine go_assignD rfl rfl rfl rfl rfl rfl  ?_
      refine go_endD (.inl (by simp [quietP] <;> omega)) ?_
      refine gon_seq ?_
      refine go_cond rfl (fun hc3 => ?_) (fun hc3 => ?_)
      · skip
        refine go_seq ?_
        refine go_region ?_   -- region 7 wire.go:56
        refine go_move rfl rfl rfl rfl rfl rfl  ?_
        refine go_nilCheck rfl rfl rfl rfl rfl rfl  ?_
        refine go_fieldAddr rfl rfl rfl rfl rfl rfl fo_wire_Reader_2 ?_
        refine go_store rfl rfl rfl rfl rfl siz_api_Errno rfl (by omega) (by repeat (first | assumption | exact Tr.get_set_eq _ _ _ | rw [Tr.get_set_ne _ _ (by omega)])) rfl rfl (fun h => by first | exact absurd h (by simp only [Nat.not_lt]; omega) | assumption) ?_
        refine go_end ?_
        refine gon_seq ?_
        refine go_seq ?_
        refine go_region ?_   -- region 8 wire.go:57
        refine go_assign rfl rfl rfl rfl rfl rfl  ?_
        refine go_end ?_
        refine gon_seq ?_
        refine go_ret ?_
        refine go_result ?_
        refine gov_tmp rfl ?_
        refine gov_nil ?_
        have hs : (l.length : Int) - (s.at' : Int) < (q : Int) := by simpa using hc3
        have : rNum l q s = (0, ⟨s.at', 2⟩) := by simp only [rNum, he]; rw [if_neg (by simp), if_neg hkk, if_pos hs]
        rw [this]
        exact ⟨rfl, Rdr.mk' (Tr.get_set_eq _ _ _) hsl (fun b hb => Tr.get_set_ne _ _ hb) rfl rfl hlo hhi hle⟩
      · skip
        refine go_skip ?_
        refine gon_block ?_
        refine gon_seq ?_
        refine go_seq ?_
        refine go_region ?_   -- region 9 wire.go:59
        refine go_assign rfl rfl rfl rfl rfl rfl  ?_
        refine go_end ?_
        refine gon_seq ?_
        refine go_seq ?_
        refine go_seq ?_
        refine go_region ?_   -- region 10 wire.go:60
        refine go_move rfl rfl rfl rfl rfl rfl  ?_
        refine go_move rfl rfl rfl rfl rfl rfl  ?_
        refine go_end ?_
        refine gon_seq ?_
        refine go_block ?_
        have hs : ¬ (l.length : Int) - (s.at' : Int) < (q : Int) := by simpa using hc3
        have hM : rNum l q s = (valB ((l.drop s.at').take q), ⟨s.at' + q, 0⟩) := by simp only [rNum, he]; rw [if_neg (by simp), if_neg hkk, if_neg hs]; rfl
        refine go_loop (X := Nat) (fun j => [(0, .pointer (some ⟨br, 0, none⟩)), (5, .int .u64 ((valB ((l.drop s.at').take j) : Nat) : Int)), (42, .int .i64 (q : Int)), (43, .int .i64 (j : Int))])
          (fun j n' H' => n' = c.n0 ∧ j ≤ q ∧ H'.get br = some (.cells [.slice a l.length code, .int .i64 ((s.at' + j : Nat) : Int), .int .i64 0] true [] 0) ∧ ∀ b, b ≠ br → H'.get b = H.get b) (fun j => q - j) 0 (by repeat' (first | exact trivial | rfl | (exact congrArg some (congrArg (Value.int _) (by omega))) | apply And.intro)) ?_ ?_ ?_
        · exact ⟨rfl, Nat.zero_le _, hcell, fun _ _ => rfl⟩
        · show q - 0 < lf
          omega
        · rintro j n' H' hle' hfr ⟨rfl, hj, hcell', hoth⟩
          dsimp only at *
          refine go_seq ?_
          refine go_region ?_   -- region 11 wire.go:60
          refine go_bin rfl rfl rfl rfl rfl rfl rfl rfl i_lss ?_
          refine go_end ?_
          refine gon_seq ?_
          refine go_seq ?_
          refine go_cond rfl (fun hc5 => ?_) (fun hc5 => ?_)
          · skip
            refine go_skip ?_
            refine gon_seq ?_
            refine go_seq ?_
            refine go_block ?_
            refine go_seq ?_
            refine go_region ?_   -- region 12 DRAW wire.go:61
            refine go_moveD rfl rfl rfl rfl rfl rfl  ?_
            have hjq : j < q := by simp at hc5; omega
            have hat : s.at' + j < l.length := by omega
            have hv := valB_take_lt hby s.at' j
            have hp : 256 ^ j ≤ 256 ^ 7 := Nat.pow_le_pow_right (by omega) (by omega)
            have hx := hby (l[s.at' + j]'hat) (List.getElem_mem _)
            obtain ⟨b, i, cs, rw1, old, esz, ha, hb1, hb2, hb3, hb4⟩ := hsl.at hat
            refine go_shiftD rfl rfl rfl rfl rfl rfl rfl (.inl ⟨rfl, rfl⟩) (u_shl (b := 8) rfl rfl (by decide) rfl (by show _ < 18446744073709551616; omega)) ?_
            refine go_moveD rfl rfl rfl rfl rfl rfl  ?_
            refine go_nilCheckD rfl rfl rfl rfl rfl rfl  ?_
            refine go_fieldAddrD rfl rfl rfl rfl rfl rfl fo_wire_Reader_0 ?_
            refine go_loadD rfl rfl rfl rfl rfl rfl agg_S_uint8 (by omega) (by repeat (first | assumption | exact Tr.get_set_eq _ _ _ | rw [Tr.get_set_ne _ _ (by omega)])) rfl (fun h => by first | exact absurd h (by simp only [Nat.not_lt]; omega) | exact .inl (by assumption) | exact .inr (by assumption)) ?_
            refine go_moveD rfl rfl rfl rfl rfl rfl  ?_
            refine go_nilCheckD rfl rfl rfl rfl rfl rfl  ?_
            refine go_fieldAddrD rfl rfl rfl rfl rfl rfl fo_wire_Reader_1 ?_
            refine go_loadD rfl rfl rfl rfl rfl rfl agg_int (by omega) (by repeat (first | assumption | exact Tr.get_set_eq _ _ _ | rw [Tr.get_set_ne _ _ (by omega)])) rfl (fun h => by first | exact absurd h (by simp only [Nat.not_lt]; omega) | exact .inl (by assumption) | exact .inr (by assumption)) ?_
            refine go_indexAddrD (j := s.at' + j) rfl rfl rfl rfl rfl rfl rfl eltK_S_uint8 ha rfl hat ?_
            refine go_loadD rfl rfl rfl rfl rfl rfl agg_uint8 hb2 ((hoth b hb1.2.2).trans hb3) (v := .int .u8 ((l[s.at' + j]'hat : Nat) : Int)) (by rw [hb4 _ (by omega), Nat.mul_one, u8s_get, List.getElem?_eq_getElem hat]; rfl) (fun _ => .inl (hR b hb1.1 hb1.2.1)) ?_
            refine go_convD rfl rfl rfl rfl rfl rfl und_uint8 und_uint64 (wrap_lt rfl (by show _ < 18446744073709551616; omega)) ?_
            refine go_binD rfl rfl rfl rfl rfl rfl rfl rfl (u_or rfl rfl rfl (by show _ < 18446744073709551616; omega) (by show _ < 18446744073709551616; omega) ((or_low hx).trans (valB_take_succ hat).symm)) ?_
            refine go_assignD rfl rfl rfl rfl rfl rfl  ?_
            refine go_endD (.inl (by simp [quietP] <;> omega)) ?_
            refine gon_seq ?_
            refine go_region ?_   -- region 13 wire.go:62
            refine go_move rfl rfl rfl rfl rfl rfl  ?_
            refine go_nilCheck rfl rfl rfl rfl rfl rfl  ?_
            refine go_fieldAddr rfl rfl rfl rfl rfl rfl fo_wire_Reader_1 ?_
            refine go_load rfl rfl rfl rfl rfl rfl agg_int (by omega) (by repeat (first | assumption | exact Tr.get_set_eq _ _ _ | rw [Tr.get_set_ne _ _ (by omega)])) rfl (fun h => by first | exact absurd h (by simp only [Nat.not_lt]; omega) | exact .inl (by assumption) | exact .inr (by assumption)) ?_
            refine go_bin rfl rfl rfl rfl rfl rfl rfl rfl (i_add' (wrap_i64 (by omega) (by omega))) ?_
            refine go_nilCheck rfl rfl rfl rfl rfl rfl  ?_
            refine go_fieldAddr rfl rfl rfl rfl rfl rfl fo_wire_Reader_1 ?_
            refine go_store rfl rfl rfl rfl rfl siz_int rfl (by omega) (by repeat (first | assumption | exact Tr.get_set_eq _ _ _ | rw [Tr.get_set_ne _ _ (by omega)])) rfl rfl (fun h => by first | exact absurd h (by simp only [Nat.not_lt]; omega) | assumption) ?_
            refine go_end ?_
            refine gon_block ?_
            refine gon_seq ?_
            refine go_region ?_   -- region 14 wire.go:60
            refine go_bin rfl rfl rfl rfl rfl rfl rfl rfl (i_add' (wrap_i64 (by omega) (by omega))) ?_
            refine go_move rfl rfl rfl rfl rfl rfl  ?_
            refine go_end ?_
            refine gon_loop ⟨j + 1, (by repeat' (first | exact trivial | rfl | (exact congrArg some (congrArg (Value.int _) (by omega))) | apply And.intro)), by show q - (j + 1) < q - j; omega, ?_⟩
            refine ⟨rfl, hjq, ?_, fun b hb => by rw [Tr.get_set_ne _ _ hb]; exact hoth b hb⟩
            rw [Tr.get_set_eq]
            exact congrArg some (congrArg (fun z => AObj.cells [.slice a l.length code, .int .i64 z, .int .i64 0] true [] 0) (by omega))
          · skip
            refine go_exit ?_
            refine gox_seq ?_
            refine gox_loop ?_
            refine gox_out ?_
            refine gon_seq ?_
            refine go_seq ?_
            refine go_region ?_   -- region 15 wire.go:64
            refine go_move rfl rfl rfl rfl rfl rfl  ?_
            refine go_assign rfl rfl rfl rfl rfl rfl  ?_
            refine go_end ?_
            refine gon_seq ?_
            refine go_ret ?_
            refine go_result ?_
            refine gov_tmp rfl ?_
            refine gov_nil ?_
            obtain rfl : j = q := by simp at hc5; omega
            rw [hM]
            exact ⟨rfl, Rdr.mk' hcell' hsl hoth rfl rfl hlo hhi (by show s.at' + j ≤ _; omega)⟩
theorem rdrErr_ok {lf : Nat} {lo br : Nat} {l : List Nat} {s : RS} (c : Cx) (H : Tr AObj) (hr : Rdr lo c.n0 H br l s.at' s.err) (hR : ∀ b, lo ≤ b → b < c.n0 → c.R b) :
    FnOK Tryz.prog lf 1 65 [.pointer (some ⟨br, 0, none⟩)] c H (fun v n' H' => v = .int .i64 (s.err : Int) ∧ n' = c.n0 ∧ H' = H) := by
  obtain ⟨⟨a, code, hcell, hsl⟩, hlo, hhi, hle⟩ := hr
  refine fn_enter Tryz.func65 rfl fun d hd => ?_   -- (*spyglass/wire.Reader).Err params [120] results [51]
  refine go_seq ?_
  refine go_region ?_   -- region 0 wire.go:137
  refine go_assign rfl rfl rfl rfl rfl rfl  ?_
  refine go_end ?_
  refine gon_seq ?_
  refine go_seq ?_
  refine go_seq ?_
  refine go_region ?_   -- region 1 wire.go:138
  refine go_move rfl rfl rfl rfl rfl rfl  ?_
  refine go_ptrEqNil rfl rfl rfl rfl rfl rfl rfl und_P_wire_Reader ?_
  refine go_end ?_
  refine gon_seq ?_
  refine go_cond rfl (fun hc1 => ?_) (fun hc1 => ?_)
  · skip
    refine go_seq ?_
    refine go_region ?_   -- region 2 wire.go:139
    refine go_assign rfl rfl rfl rfl rfl rfl  ?_
    refine go_end ?_
    refine gon_seq ?_
    refine go_ret ?_
    refine go_result ?_
    refine gov_tmp rfl ?_
    refine gov_nil ?_
    simp at hc1
  · skip
    refine go_skip ?_
    refine gon_seq ?_
    refine go_seq ?_
    refine go_region ?_   -- region 3 wire.go:141
    refine go_move rfl rfl rfl rfl rfl rfl  ?_
    refine go_nilCheck rfl rfl rfl rfl rfl rfl  ?_
    refine go_fieldAddr rfl rfl rfl rfl rfl rfl fo_wire_Reader_2 ?_
    refine go_load rfl rfl rfl rfl rfl rfl agg_api_Errno hhi hcell rfl (fun _ => .inl (hR br hlo hhi)) ?_
    refine go_assign rfl rfl rfl rfl rfl rfl  ?_
    refine go_end ?_
    refine gon_seq ?_
    refine go_ret ?_
    refine go_result ?_
    refine gov_tmp rfl ?_
    refine gov_nil ?_
    exact ⟨rfl, rfl, rfl⟩
theorem rdrLeft_ok {lf : Nat} {lo br : Nat} {l : List Nat} {s : RS} (c : Cx) (H : Tr AObj) (hr : Rdr lo c.n0 H br l s.at' s.err) (hl : l.length ≤ 2 ^ 20) (hR : ∀ b, lo ≤ b → b < c.n0 → c.R b) :
    FnOK Tryz.prog lf 1 67 [.pointer (some ⟨br, 0, none⟩)] c H (fun v n' H' => v = .int .i64 ((l.length - s.at' : Nat) : Int) ∧ n' = c.n0 ∧ H' = H) := by
  obtain ⟨⟨a, code, hcell, hsl⟩, hlo, hhi, hle⟩ := hr
  have hRb := hR br hlo hhi
  refine fn_enter Tryz.func67 rfl fun d hd => ?_   -- (*spyglass/wire.Reader).Left params [120] results [3]
  refine go_seq ?_
  refine go_region ?_   -- region 0 wire.go:129
  refine go_assign rfl rfl rfl rfl rfl rfl  ?_
  refine go_end ?_
  refine gon_seq ?_
  refine go_seq ?_
  refine go_seq ?_
  refine go_region ?_   -- region 1 wire.go:130
  refine go_move rfl rfl rfl rfl rfl rfl  ?_
  refine go_ptrEqNil rfl rfl rfl rfl rfl rfl rfl und_P_wire_Reader ?_
  refine go_end ?_
  refine gon_seq ?_
  refine go_cond rfl (fun hc1 => ?_) (fun hc1 => ?_)
  · skip
    refine go_seq ?_
    refine go_region ?_   -- region 2 wire.go:131
    refine go_assign rfl rfl rfl rfl rfl rfl  ?_
    refine go_end ?_
    refine gon_seq ?_
    refine go_ret ?_
    refine go_result ?_
    refine gov_tmp rfl ?_
    refine gov_nil ?_
    simp at hc1
  · skip
    refine go_skip ?_
    refine gon_seq ?_
    refine go_seq ?_
    refine go_region ?_   -- region 3 DRAW wire.go:133
    refine go_moveD rfl rfl rfl rfl rfl rfl  ?_
    refine go_nilCheckD rfl rfl rfl rfl rfl rfl  ?_
    refine go_fieldAddrD rfl rfl rfl rfl rfl rfl fo_wire_Reader_0 ?_
    refine go_loadD rfl rfl rfl rfl rfl rfl agg_S_uint8 hhi hcell rfl (fun _ => .inl hRb) ?_
    refine go_lenD rfl rfl rfl rfl rfl  rfl rfl rfl und_S_uint8 ?_
    refine go_moveD rfl rfl rfl rfl rfl rfl  ?_
    refine go_nilCheckD rfl rfl rfl rfl rfl rfl  ?_
    refine go_fieldAddrD rfl rfl rfl rfl rfl rfl fo_wire_Reader_1 ?_
    refine go_loadD rfl rfl rfl rfl rfl rfl agg_int hhi hcell rfl (fun _ => .inl hRb) ?_
    refine go_binD rfl rfl rfl rfl rfl rfl rfl rfl (i_sub' (wrap_i64 (by omega) (by omega))) ?_
    refine go_assignD rfl rfl rfl rfl rfl rfl  ?_
    refine go_endD (.inl (by simp [quietP] <;> omega)) ?_
    refine gon_seq ?_
    refine go_ret ?_
    refine go_result ?_
    refine gov_tmp rfl ?_
    refine gov_nil ?_
    exact ⟨by show Value.int _ _ = _; congr 1; omega, rfl, rfl⟩
theorem rdrVar_ok {lf : Nat} (hlf : 2 ^ 17 ≤ lf) {lo br : Nat} {l : List Nat} {s : RS} (c : Cx) (H : Tr AObj) (hr : Rdr lo c.n0 H br l s.at' s.err) (hl : l.length ≤ 2 ^ 20) (hby : ∀ x ∈ l, x < 256)
    (hR : ∀ b, lo ≤ b → b < c.n0 → c.R b) (hW : c.W br) :
    FnOK Tryz.prog lf 1 64 [.pointer (some ⟨br, 0, none⟩)] c H (fun v n' H' => v = .int .u64 ((rVar l s).1 : Int) ∧ Rdr lo n' H' br l (rVar l s).2.at' (rVar l s).2.err) := by
  obtain ⟨⟨a, code, hcell, hsl⟩, hlo, hhi, hle⟩ := hr
  refine fn_enter Tryz.func64 rfl fun d hd => ?_   -- (*spyglass/wire.Reader).Var params [120] results [45]
  refine go_seq ?_
  refine go_region ?_   -- region 0 wire.go:68
  refine go_assign rfl rfl rfl rfl rfl rfl  ?_
  refine go_end ?_
  refine gon_seq ?_
  refine go_seq ?_
  refine go_seq ?_
  refine go_region ?_   -- region 1 wire.go:69
  refine go_move rfl rfl rfl rfl rfl rfl  ?_
  refine go_ptrEqNil rfl rfl rfl rfl rfl rfl rfl und_P_wire_Reader ?_
  refine go_move rfl rfl rfl rfl rfl rfl  ?_
  refine go_moveG rfl rfl rfl rfl rfl rfl rfl rfl rfl rfl (fun _ => rfl)  ?_
  refine go_nilCheckG rfl rfl rfl rfl rfl rfl rfl rfl rfl rfl (fun h => h)  ?_
  refine go_fieldAddrG rfl rfl rfl rfl rfl rfl rfl rfl rfl rfl (fun h => h) fo_wire_Reader_2 ?_
  refine go_loadG rfl rfl rfl rfl rfl rfl rfl rfl rfl rfl (fun h => h) agg_api_Errno (fun _ => .inr hW) (fun _ => ⟨hhi, _, _, _, _, hcell, rfl⟩) ?_
  refine go_binG rfl rfl rfl rfl rfl rfl rfl rfl rfl rfl (fun h => h) rfl (fun _ => rfl) rfl i_neq ?_
  refine go_pick_or rfl rfl rfl rfl rfl rfl rfl rfl (fun h => pick_r rfl h) ?_
  refine go_end ?_
  refine gon_seq ?_
  refine go_cond rfl (fun hc1 => ?_) (fun hc1 => ?_)
  · skip
    refine go_seq ?_
    refine go_region ?_   -- region 2 wire.go:70
    refine go_assign rfl rfl rfl rfl rfl rfl  ?_
    refine go_end ?_
    refine gon_seq ?_
    refine go_ret ?_
    refine go_result ?_
    refine gov_tmp rfl ?_
    refine gov_nil ?_
    have he : s.err ≠ 0 := by simp at hc1; omega
    have : rVar l s = (0, s) := by simp [rVar, he]
    rw [this]
    exact ⟨rfl, ⟨a, code, hcell, hsl⟩, hlo, hhi, hle⟩
  · skip
    refine go_skip ?_
    refine gon_seq ?_
    refine go_seq ?_
    refine go_region ?_   -- region 3 wire.go:72
    refine go_assign rfl rfl rfl rfl rfl rfl  ?_
    refine go_end ?_
    refine gon_seq ?_
    refine go_seq ?_
    refine go_region ?_   -- region 4 wire.go:73
    refine go_assign rfl rfl rfl rfl rfl rfl  ?_
    refine go_end ?_
    refine gon_seq ?_
    refine go_block ?_
    have he : s.err = 0 := by simp at hc1; omega
    rw [he] at hcell
    refine go_loop (X := Nat × Nat) (fun x => [(0, .pointer (some ⟨br, 0, none⟩)), (3, .int .u64 (x.2 : Int)), (4, .int .i64 (x.1 : Int))])
      (fun x n' H' => n' = c.n0 ∧ H' = H ∧ rVarF x.1 x.2 (l.drop (s.at' + x.1)) = rVarF 0 0 (l.drop s.at') ∧ x.2 < 128 ^ x.1 ∧ x.1 ≤ 9 ∧ s.at' + x.1 ≤ l.length) (fun x => 9 - x.1) (0, 0) (by repeat' (first | exact trivial | rfl | (exact congrArg some (congrArg (Value.int _) (by omega))) | apply And.intro)) ?_ ?_ ?_
    · exact ⟨rfl, rfl, rfl, by simp, by omega, hle⟩
    · show 9 - 0 < lf
      omega
    · rintro ⟨i, n⟩ n' H' hle' hfr ⟨rfl, rfl, hrv, hn, hi9, hati⟩
      dsimp only at *
      refine go_seq ?_
      refine go_block ?_
      refine go_seq ?_
      refine go_seq ?_
      refine go_region ?_   -- region 6 DRAW wire.go:74
      refine go_moveD rfl rfl rfl rfl rfl rfl  ?_
      refine go_nilCheckD rfl rfl rfl rfl rfl rfl  ?_
      refine go_fieldAddrD rfl rfl rfl rfl rfl rfl fo_wire_Reader_1 ?_
      refine go_loadD rfl rfl rfl rfl rfl rfl agg_int (by omega) (by repeat (first | assumption | exact Tr.get_set_eq _ _ _ | rw [Tr.get_set_ne _ _ (by omega)])) rfl (fun h => by first | exact absurd h (by simp only [Nat.not_lt]; omega) | exact .inl (by assumption) | exact .inr (by assumption)) ?_
      refine go_moveD rfl rfl rfl rfl rfl rfl  ?_
      refine go_binD rfl rfl rfl rfl rfl rfl rfl rfl (i_add' (wrap_i64 (by omega) (by omega))) ?_
      refine go_moveD rfl rfl rfl rfl rfl rfl  ?_
      refine go_nilCheckD rfl rfl rfl rfl rfl rfl  ?_
      refine go_fieldAddrD rfl rfl rfl rfl rfl rfl fo_wire_Reader_0 ?_
      refine go_loadD rfl rfl rfl rfl rfl rfl agg_S_uint8 (by omega) (by repeat (first | assumption | exact Tr.get_set_eq _ _ _ | rw [Tr.get_set_ne _ _ (by omega)])) rfl (fun h => by first | exact absurd h (by simp only [Nat.not_lt]; omega) | exact .inl (by assumption) | exact .inr (by assumption)) ?_
      refine go_lenD rfl rfl rfl rfl rfl  rfl rfl rfl und_S_uint8 ?_
      refine go_binD rfl rfl rfl rfl rfl rfl rfl rfl i_geq ?_
      refine go_endD (.inl (by simp [quietP] <;> omega)) ?_
      refine gon_seq ?_
      refine go_cond rfl (fun hc3 => ?_) (fun hc3 => ?_)
      · skip
        refine go_seq ?_
        refine go_region ?_   -- region 7 wire.go:75
        refine go_move rfl rfl rfl rfl rfl rfl  ?_
        refine go_nilCheck rfl rfl rfl rfl rfl rfl  ?_
        refine go_fieldAddr rfl rfl rfl rfl rfl rfl fo_wire_Reader_2 ?_
        refine go_store rfl rfl rfl rfl rfl siz_api_Errno rfl (by omega) (by repeat (first | assumption | exact Tr.get_set_eq _ _ _ | rw [Tr.get_set_ne _ _ (by omega)])) rfl rfl (fun h => by first | exact absurd h (by simp only [Nat.not_lt]; omega) | assumption) ?_
        refine go_end ?_
        refine gon_seq ?_
        refine go_seq ?_
        refine go_region ?_   -- region 8 wire.go:76
        refine go_assign rfl rfl rfl rfl rfl rfl  ?_
        refine go_end ?_
        refine gon_seq ?_
        refine go_ret ?_
        refine go_result ?_
        refine gov_tmp rfl ?_
        refine gov_nil ?_
        have hd : l.drop (s.at' + i) = [] := List.drop_eq_nil_of_le (by simp at hc3; omega)
        rw [hd] at hrv
        have : rVar l s = (0, ⟨s.at', 2⟩) := by simp [rVar, he, ← hrv, rVarF]
        rw [this]
        exact ⟨rfl, Rdr.mk' (Tr.get_set_eq _ _ _) hsl (fun b hb => Tr.get_set_ne _ _ hb) rfl rfl hlo hhi hle⟩
      · skip
        refine go_skip ?_
        refine gon_seq ?_
        refine go_seq ?_
        refine go_region ?_   -- region 9 DRAW wire.go:78
        refine go_moveD rfl rfl rfl rfl rfl rfl  ?_
        refine go_nilCheckD rfl rfl rfl rfl rfl rfl  ?_
        refine go_fieldAddrD rfl rfl rfl rfl rfl rfl fo_wire_Reader_0 ?_
        have hat : s.at' + i < l.length := by simp at hc3; omega
        have hx := hby (l[s.at' + i]'hat) (List.getElem_mem _)
        rw [List.drop_eq_getElem_cons hat, rVarF] at hrv
        generalize hd : l[s.at' + i]'hat = d at hrv hx
        obtain ⟨b, i', cs, rw1, old, esz, ha, hb1, hb2, hb3, hb4⟩ := hsl.at hat
        refine go_loadD rfl rfl rfl rfl rfl rfl agg_S_uint8 (by omega) (by repeat (first | assumption | exact Tr.get_set_eq _ _ _ | rw [Tr.get_set_ne _ _ (by omega)])) rfl (fun h => by first | exact absurd h (by simp only [Nat.not_lt]; omega) | exact .inl (by assumption) | exact .inr (by assumption)) ?_
        refine go_moveD rfl rfl rfl rfl rfl rfl  ?_
        refine go_nilCheckD rfl rfl rfl rfl rfl rfl  ?_
        refine go_fieldAddrD rfl rfl rfl rfl rfl rfl fo_wire_Reader_1 ?_
        refine go_loadD rfl rfl rfl rfl rfl rfl agg_int (by omega) (by repeat (first | assumption | exact Tr.get_set_eq _ _ _ | rw [Tr.get_set_ne _ _ (by omega)])) rfl (fun h => by first | exact absurd h (by simp only [Nat.not_lt]; omega) | exact .inl (by assumption) | exact .inr (by assumption)) ?_
        refine go_moveD rfl rfl rfl rfl rfl rfl  ?_
        refine go_binD rfl rfl rfl rfl rfl rfl rfl rfl (i_add' (wrap_i64 (by omega) (by omega))) ?_
        refine go_indexAddrD (j := s.at' + i) rfl rfl rfl rfl rfl rfl rfl eltK_S_uint8 ha (by omega) hat ?_
        refine go_loadD rfl rfl rfl rfl rfl rfl agg_uint8 hb2 hb3 (v := .int .u8 ((d : Nat) : Int)) (by rw [hb4 _ (by omega), Nat.mul_one, u8s_get, List.getElem?_eq_getElem hat, hd]; rfl) (fun _ => .inl (hR b hb1.1 hb1.2.1)) ?_
        refine go_assignD rfl rfl rfl rfl rfl rfl  ?_
        refine go_endD (.inl (by simp [quietP] <;> omega)) ?_
        refine gon_seq ?_
        refine go_seq ?_
        refine go_seq ?_
        refine go_region ?_   -- region 10 wire.go:79
        refine go_move rfl rfl rfl rfl rfl rfl  ?_
        refine go_bin rfl rfl rfl rfl rfl rfl rfl rfl i_eql ?_
        refine go_move rfl rfl rfl rfl rfl rfl  ?_
        refine go_moveG rfl rfl rfl rfl rfl rfl rfl rfl rfl rfl (fun _ => rfl)  ?_
        refine go_binG rfl rfl rfl rfl rfl rfl rfl rfl rfl rfl (fun h => h) rfl (fun _ => rfl) rfl i_gtr ?_
        refine go_pick_and rfl rfl rfl rfl rfl rfl rfl rfl (fun h => pick_r rfl h) ?_
        refine go_move rfl rfl rfl rfl rfl rfl  ?_
        refine go_moveG rfl rfl rfl rfl rfl rfl rfl rfl rfl rfl (fun _ => rfl)  ?_
        refine go_binG rfl rfl rfl rfl rfl rfl rfl rfl rfl rfl (fun h => h) rfl (fun _ => rfl) rfl i_gtr ?_
        refine go_moveG rfl rfl rfl rfl rfl rfl rfl rfl rfl rfl (fun h => h)  ?_
        refine go_moveG rfl rfl rfl rfl rfl rfl rfl rfl rfl rfl (fun _ => rfl)  ?_
        refine go_binG rfl rfl rfl rfl rfl rfl rfl rfl rfl rfl (fun h => h) rfl (fun _ => rfl) rfl i_eql ?_
        refine go_pick_andG rfl rfl rfl rfl rfl rfl rfl rfl rfl rfl (fun h => h) rfl rfl (fun h hp => pick_r ((fun h => h) h) hp) ?_
        refine go_pick_or rfl rfl rfl rfl rfl rfl rfl rfl (fun h => pick_r rfl h) ?_
        refine go_end ?_
        refine gon_seq ?_
        refine go_cond rfl (fun hc4 => ?_) (fun hc4 => ?_)
        · skip
          refine go_seq ?_
          refine go_region ?_   -- region 11 wire.go:80
          refine go_move rfl rfl rfl rfl rfl rfl  ?_
          refine go_nilCheck rfl rfl rfl rfl rfl rfl  ?_
          refine go_fieldAddr rfl rfl rfl rfl rfl rfl fo_wire_Reader_2 ?_
          refine go_store rfl rfl rfl rfl rfl siz_api_Errno rfl (by omega) (by repeat (first | assumption | exact Tr.get_set_eq _ _ _ | rw [Tr.get_set_ne _ _ (by omega)])) rfl rfl (fun h => by first | exact absurd h (by simp only [Nat.not_lt]; omega) | assumption) ?_
          refine go_end ?_
          refine gon_seq ?_
          refine go_seq ?_
          refine go_region ?_   -- region 12 wire.go:81
          refine go_assign rfl rfl rfl rfl rfl rfl  ?_
          refine go_end ?_
          refine gon_seq ?_
          refine go_ret ?_
          refine go_result ?_
          refine gov_tmp rfl ?_
          refine gov_nil ?_
          have hbad : (i = 9 ∧ d > 1) ∨ (i > 0 ∧ d = 0) := by simp at hc4; omega
          rw [if_pos hbad] at hrv
          have : rVar l s = (0, ⟨s.at', 3⟩) := by simp [rVar, he, ← hrv]
          rw [this]
          exact ⟨rfl, Rdr.mk' (Tr.get_set_eq _ _ _) hsl (fun b hb => Tr.get_set_ne _ _ hb) rfl rfl hlo hhi hle⟩
        · skip
          refine go_skip ?_
          refine gon_seq ?_
          refine go_seq ?_
          refine go_region ?_   -- region 13 wire.go:83
          refine go_move rfl rfl rfl rfl rfl rfl  ?_
          refine go_move rfl rfl rfl rfl rfl rfl  ?_
          have hgood : ¬ ((i = 9 ∧ d > 1) ∨ (i > 0 ∧ d = 0)) := by simp at hc4; omega
          rw [if_neg hgood] at hrv
          have hn2 : n < 2 ^ (7 * i) := by rw [← p128]; exact hn
          have hsh : d % 128 * 2 ^ (7 * i) < 18446744073709551616 := by
            by_cases h9 : i = 9
            · subst h9
              have : d % 128 ≤ 1 := by omega
              have := Nat.mul_le_mul_right (2 ^ (7 * 9)) this
              omega
            · have h1 : d % 128 ≤ 127 := by omega
              have h2 := Nat.mul_le_mul_right (2 ^ (7 * i)) h1
              have h3 : 2 ^ (7 * i) ≤ 2 ^ (7 * 8) := Nat.pow_le_pow_right (by omega) (by omega)
              omega
          have hn3 : n < 18446744073709551616 := Nat.lt_of_lt_of_le hn2 (by have : 2 ^ (7 * i) ≤ 2 ^ (7 * 9) := Nat.pow_le_pow_right (by omega) (by omega); omega)
          refine go_bin rfl rfl rfl rfl rfl rfl rfl rfl (u_and (b := 127) rfl rfl rfl (by show _ < 256; omega) (by show _ < 256; omega) and127) ?_
          refine go_conv rfl rfl rfl rfl rfl rfl und_uint8 und_uint64 (wrap_lt rfl (by show _ < 18446744073709551616; omega)) ?_
          refine go_move rfl rfl rfl rfl rfl rfl  ?_
          refine go_bin rfl rfl rfl rfl rfl rfl rfl rfl (i_mul' (wrap_i64 (by omega) (by omega))) ?_
          refine go_conv (k := .u64) (c := ((7 * i : Nat) : Int)) rfl rfl rfl rfl rfl rfl und_int und_uint (by rw [show (7 * (i : Int)) = ((7 * i : Nat) : Int) by omega]; exact wrap_lt rfl (by show _ < 18446744073709551616; omega)) ?_
          refine go_shift rfl rfl rfl rfl rfl rfl rfl (.inl ⟨rfl, rfl⟩) (u_shl rfl rfl (by show 7 * i ≤ 64; omega) rfl hsh) ?_
          refine go_bin rfl rfl rfl rfl rfl rfl rfl rfl (u_or rfl rfl rfl hn3 hsh (or_hi hn2)) ?_
          refine go_assign rfl rfl rfl rfl rfl rfl  ?_
          refine go_end ?_
          refine gon_seq ?_
          refine go_seq ?_
          refine go_region ?_   -- region 14 wire.go:84
          refine go_move rfl rfl rfl rfl rfl rfl  ?_
          refine go_bin rfl rfl rfl rfl rfl rfl rfl rfl i_lss ?_
          refine go_end ?_
          refine gon_seq ?_
          refine go_cond rfl (fun hc5 => ?_) (fun hc5 => ?_)
          · skip
            refine go_seq ?_
            refine go_region ?_   -- region 15 wire.go:85
            refine go_move rfl rfl rfl rfl rfl rfl  ?_
            refine go_nilCheck rfl rfl rfl rfl rfl rfl  ?_
            refine go_fieldAddr rfl rfl rfl rfl rfl rfl fo_wire_Reader_1 ?_
            refine go_load rfl rfl rfl rfl rfl rfl agg_int (by omega) (by repeat (first | assumption | exact Tr.get_set_eq _ _ _ | rw [Tr.get_set_ne _ _ (by omega)])) rfl (fun h => by first | exact absurd h (by simp only [Nat.not_lt]; omega) | exact .inl (by assumption) | exact .inr (by assumption)) ?_
            refine go_move rfl rfl rfl rfl rfl rfl  ?_
            refine go_bin rfl rfl rfl rfl rfl rfl rfl rfl (i_add' (wrap_i64 (by omega) (by omega))) ?_
            refine go_bin rfl rfl rfl rfl rfl rfl rfl rfl (i_add' (wrap_i64 (by omega) (by omega))) ?_
            refine go_nilCheck rfl rfl rfl rfl rfl rfl  ?_
            refine go_fieldAddr rfl rfl rfl rfl rfl rfl fo_wire_Reader_1 ?_
            refine go_store rfl rfl rfl rfl rfl siz_int rfl (by omega) (by repeat (first | assumption | exact Tr.get_set_eq _ _ _ | rw [Tr.get_set_ne _ _ (by omega)])) rfl rfl (fun h => by first | exact absurd h (by simp only [Nat.not_lt]; omega) | assumption) ?_
            refine go_end ?_
            refine gon_seq ?_
            refine go_seq ?_
            refine go_region ?_   -- region 16 wire.go:86
            refine go_move rfl rfl rfl rfl rfl rfl  ?_
            refine go_assign rfl rfl rfl rfl rfl rfl  ?_
            refine go_end ?_
            refine gon_seq ?_
            refine go_ret ?_
            refine go_result ?_
            refine gov_tmp rfl ?_
            refine gov_nil ?_
            have hlt : d < 128 := by simp at hc5; omega
            rw [if_pos hlt] at hrv
            have : rVar l s = (n + d % 128 * 2 ^ (7 * i), ⟨s.at' + (i + 1), 0⟩) := by simp only [rVar, he, ← hrv, p128]; simp
            rw [this]
            exact ⟨rfl, Rdr.mk' (Tr.get_set_eq _ _ _) hsl (fun b hb => Tr.get_set_ne _ _ hb) (by simp only; omega) rfl hlo hhi hat⟩
          · skip
            refine go_skip ?_
            refine gon_block ?_
            refine gon_seq ?_
            refine go_region ?_   -- region 5 wire.go:73
            refine go_move rfl rfl rfl rfl rfl rfl  ?_
            refine go_bin rfl rfl rfl rfl rfl rfl rfl rfl (i_add' (wrap_i64 (by omega) (by omega))) ?_
            refine go_assign rfl rfl rfl rfl rfl rfl  ?_
            refine go_end ?_
            have hlt : ¬ d < 128 := by simp at hc5; omega
            rw [if_neg hlt] at hrv
            have hi8 : i ≠ 9 := fun e => by subst e; omega
            refine gon_loop ⟨(i + 1, n + d % 128 * 2 ^ (7 * i)), (by repeat' (first | exact trivial | rfl | (exact congrArg some (congrArg (Value.int _) (by omega))) | apply And.intro)), by show 9 - (i + 1) < 9 - i; omega, ?_⟩
            refine ⟨rfl, rfl, ?_, ?_, by show i + 1 ≤ 9; omega, hat⟩
            · rw [← hrv, p128]; rfl
            · show n + d % 128 * 2 ^ (7 * i) < 128 ^ (i + 1)
              rw [Nat.pow_succ, p128]
              have h1 : d % 128 ≤ 127 := by omega
              have h2 := Nat.mul_le_mul_right (2 ^ (7 * i)) h1
              omega
theorem rdrTake_ok {lf : Nat} {lo br q : Nat} {l : List Nat} {s : RS} (c : Cx) (H : Tr AObj) (hr : Rdr lo c.n0 H br l s.at' s.err) (hl : l.length ≤ 2 ^ 20) (he : s.err = 0) (hq : s.at' + q ≤ l.length)
    (hR : ∀ b, lo ≤ b → b < c.n0 → c.R b) (hW : c.W br) :
    FnOK Tryz.prog lf 1 66 [.pointer (some ⟨br, 0, none⟩), .int .i64 (q : Int)] c H (fun v n' H' => ∃ a code, v = .slice a q code ∧ New c.n0 n' H' 1 a q code (u8s ((l.drop s.at').take q))) := by
  obtain ⟨⟨a, code, hcell, hsl⟩, hlo, hhi, hle⟩ := hr
  rw [he] at hcell
  refine fn_enter Tryz.func66 rfl fun d hd => ?_   -- (*spyglass/wire.Reader).Take params [120, 3] results [46]
  refine go_seq ?_
  refine go_region ?_   -- region 0 wire.go:112
  refine go_assign rfl rfl rfl rfl rfl rfl  ?_
  refine go_end ?_
  refine gon_seq ?_
  refine go_seq ?_
  refine go_block ?_
  refine go_seq ?_
  refine go_region ?_   -- region 1 wire.go:114
  refine go_move rfl rfl rfl rfl rfl rfl  ?_
  refine go_ptrEqNil rfl rfl rfl rfl rfl rfl rfl und_P_wire_Reader ?_
  refine go_move rfl rfl rfl rfl rfl rfl  ?_
  refine go_moveG rfl rfl rfl rfl rfl rfl rfl rfl rfl rfl (fun _ => rfl)  ?_
  refine go_nilCheckG rfl rfl rfl rfl rfl rfl rfl rfl rfl rfl (fun h => h)  ?_
  refine go_fieldAddrG rfl rfl rfl rfl rfl rfl rfl rfl rfl rfl (fun h => h) fo_wire_Reader_2 ?_
  refine go_loadG rfl rfl rfl rfl rfl rfl rfl rfl rfl rfl (fun h => h) agg_api_Errno (fun _ => .inr hW) (fun _ => ⟨hhi, _, _, _, _, hcell, rfl⟩) ?_
  refine go_binG rfl rfl rfl rfl rfl rfl rfl rfl rfl rfl (fun h => h) rfl (fun _ => rfl) rfl i_neq ?_
  refine go_pick_or rfl rfl rfl rfl rfl rfl rfl rfl (fun h => pick_r rfl h) ?_
  refine go_assign rfl rfl rfl rfl rfl rfl  ?_
  refine go_end ?_
  refine gon_seq ?_
  refine go_cond rfl (fun hc1 => ?_) (fun hc1 => ?_)
  · simp at hc1
  · skip
    refine go_seq ?_
    refine go_region ?_   -- region 3 wire.go:116
    refine go_move rfl rfl rfl rfl rfl rfl  ?_
    refine go_bin rfl rfl rfl rfl rfl rfl rfl rfl i_lss ?_
    refine go_assign rfl rfl rfl rfl rfl rfl  ?_
    refine go_end ?_
    refine gon_seq ?_
    refine go_cond rfl (fun hc2 => ?_) (fun hc2 => ?_)
    · simp at hc2; omega
    · skip
      refine go_seq ?_
      refine go_region ?_   -- region 6 DRAW wire.go:119
      refine go_moveD rfl rfl rfl rfl rfl rfl  ?_
      refine go_nilCheckD rfl rfl rfl rfl rfl rfl  ?_
      refine go_fieldAddrD rfl rfl rfl rfl rfl rfl fo_wire_Reader_0 ?_
      refine go_loadD rfl rfl rfl rfl rfl rfl agg_S_uint8 (by omega) (by repeat (first | assumption | exact Tr.get_set_eq _ _ _ | rw [Tr.get_set_ne _ _ (by omega)])) rfl (fun h => by first | exact absurd h (by simp only [Nat.not_lt]; omega) | exact .inl (by assumption) | exact .inr (by assumption)) ?_
      refine go_lenD rfl rfl rfl rfl rfl  rfl rfl rfl und_S_uint8 ?_
      refine go_moveD rfl rfl rfl rfl rfl rfl  ?_
      refine go_nilCheckD rfl rfl rfl rfl rfl rfl  ?_
      refine go_fieldAddrD rfl rfl rfl rfl rfl rfl fo_wire_Reader_1 ?_
      refine go_loadD rfl rfl rfl rfl rfl rfl agg_int (by omega) (by repeat (first | assumption | exact Tr.get_set_eq _ _ _ | rw [Tr.get_set_ne _ _ (by omega)])) rfl (fun h => by first | exact absurd h (by simp only [Nat.not_lt]; omega) | exact .inl (by assumption) | exact .inr (by assumption)) ?_
      refine go_binD rfl rfl rfl rfl rfl rfl rfl rfl (i_sub' (wrap_i64 (by omega) (by omega))) ?_
      refine go_moveD rfl rfl rfl rfl rfl rfl  ?_
      refine go_binD rfl rfl rfl rfl rfl rfl rfl rfl i_lss ?_
      refine go_assignD rfl rfl rfl rfl rfl rfl  ?_
      refine go_endD (.inl (by simp [quietP] <;> omega)) ?_
      refine gon_seq ?_
      refine go_cond rfl (fun hc3 => ?_) (fun hc3 => ?_)
      · simp at hc3; omega
      · skip
        refine go_skip ?_
        refine gon_block ?_
        refine gon_seq ?_
        refine go_seq ?_
        refine go_region ?_   -- region 9 DRAW wire.go:123
        refine go_moveD rfl rfl rfl rfl rfl rfl  ?_
        refine go_nilCheckD rfl rfl rfl rfl rfl rfl  ?_
        refine go_fieldAddrD rfl rfl rfl rfl rfl rfl fo_wire_Reader_0 ?_
        refine go_loadD rfl rfl rfl rfl rfl rfl agg_S_uint8 (by omega) (by repeat (first | assumption | exact Tr.get_set_eq _ _ _ | rw [Tr.get_set_ne _ _ (by omega)])) rfl (fun h => by first | exact absurd h (by simp only [Nat.not_lt]; omega) | exact .inl (by assumption) | exact .inr (by assumption)) ?_
        refine go_moveD rfl rfl rfl rfl rfl rfl  ?_
        refine go_nilCheckD rfl rfl rfl rfl rfl rfl  ?_
        refine go_fieldAddrD rfl rfl rfl rfl rfl rfl fo_wire_Reader_1 ?_
        refine go_loadD rfl rfl rfl rfl rfl rfl agg_int (by omega) (by repeat (first | assumption | exact Tr.get_set_eq _ _ _ | rw [Tr.get_set_ne _ _ (by omega)])) rfl (fun h => by first | exact absurd h (by simp only [Nat.not_lt]; omega) | exact .inl (by assumption) | exact .inr (by assumption)) ?_
        refine go_moveD rfl rfl rfl rfl rfl rfl  ?_
        refine go_nilCheckD rfl rfl rfl rfl rfl rfl  ?_
        refine go_fieldAddrD rfl rfl rfl rfl rfl rfl fo_wire_Reader_1 ?_
        refine go_loadD rfl rfl rfl rfl rfl rfl agg_int (by omega) (by repeat (first | assumption | exact Tr.get_set_eq _ _ _ | rw [Tr.get_set_ne _ _ (by omega)])) rfl (fun h => by first | exact absurd h (by simp only [Nat.not_lt]; omega) | exact .inl (by assumption) | exact .inr (by assumption)) ?_
        refine go_moveD rfl rfl rfl rfl rfl rfl  ?_
        refine go_binD rfl rfl rfl rfl rfl rfl rfl rfl (i_add' (wrap_i64 (by omega) (by omega))) ?_
        refine go_sliceD (l := s.at') (h := s.at' + q) rfl rfl rfl rfl rfl rfl eltK_S_uint8 rfl rfl rfl (by omega) hsl.cap (by omega) hq (fun a1 code1 hcap hsub => ?_)
        have hs1 := hsl.sub (by omega) hq hcap hsub
        rw [show s.at' + q - s.at' = q by omega] at hs1 ⊢
        rw [u8s_sub] at hs1
        have hb1 : ∀ b, blkIs a1 b → b < c.n0 := fun b hb => (hs1.blk hb).2
        have hlen : ((l.drop s.at').take q).length = q := by simp; omega
        refine go_appendND rfl rfl rfl rfl rfl rfl rfl rfl (.inl ⟨_, und_S_uint8⟩) eltA_S_uint8 rfl rfl (hs1.rd (fun b h _ => .inl (hR b h.1 h.2.1)))
          .nil rfl (u8s_one _) (by decide) (by decide) (by decide) (by omega) (by simp [u8s_length]; omega) (Nat.le_refl _) (Nat.le_refl _) (fun a2 code2 n2 H2 hle2 hfr2 hnew2 hblk2 => ?_)
        have hcell2 : H2.get br = some (.cells [.slice a l.length code, .int .i64 (s.at' : Int), .int .i64 0] true [] 0) := by rw [hfr2 br hhi (fun h => h)]; exact hcell
        refine go_assignD rfl rfl rfl rfl rfl rfl  ?_
        refine go_endD (.inl (by simp [quietP, vblk, blkIs]; repeat' (first | assumption | omega | apply And.intro))) ?_
        refine gon_seq ?_
        refine go_seq ?_
        refine go_region ?_   -- region 10 wire.go:124
        refine go_move rfl rfl rfl rfl rfl rfl  ?_
        refine go_nilCheck rfl rfl rfl rfl rfl rfl  ?_
        refine go_fieldAddr rfl rfl rfl rfl rfl rfl fo_wire_Reader_1 ?_
        refine go_load rfl rfl rfl rfl rfl rfl agg_int (by omega) (by repeat (first | assumption | exact Tr.get_set_eq _ _ _ | rw [Tr.get_set_ne _ _ (by omega)])) rfl (fun h => by first | exact absurd h (by simp only [Nat.not_lt]; omega) | exact .inl (by assumption) | exact .inr (by assumption)) ?_
        refine go_move rfl rfl rfl rfl rfl rfl  ?_
        refine go_bin rfl rfl rfl rfl rfl rfl rfl rfl (i_add' (wrap_i64 (by omega) (by omega))) ?_
        refine go_nilCheck rfl rfl rfl rfl rfl rfl  ?_
        refine go_fieldAddr rfl rfl rfl rfl rfl rfl fo_wire_Reader_1 ?_
        refine go_store rfl rfl rfl rfl rfl siz_int rfl (by omega) (by repeat (first | assumption | exact Tr.get_set_eq _ _ _ | rw [Tr.get_set_ne _ _ (by omega)])) rfl rfl (fun h => by first | exact absurd h (by simp only [Nat.not_lt]; omega) | assumption) ?_
        refine go_end ?_
        refine gon_seq ?_
        refine go_seq ?_
        refine go_region ?_   -- region 11 wire.go:125
        refine go_move rfl rfl rfl rfl rfl rfl  ?_
        refine go_assign rfl rfl rfl rfl rfl rfl  ?_
        refine go_end ?_
        refine gon_seq ?_
        refine go_ret ?_
        refine go_result ?_
        refine gov_tmp rfl ?_
        refine gov_nil ?_
        refine ⟨a2, code2, by simp [tupled], ?_⟩
        rw [Nat.zero_add] at hnew2
        exact hnew2.mono (Nat.le_refl _) (Nat.le_refl _) (fun b h1 h2 => Tr.get_set_ne _ _ (by omega))
theorem refNum_ok {lf : Nat} (hlf : 2 ^ 17 ≤ lf) {l : List Nat} {s : RS} {k : Int} {a : Option Addr} {code : Nat} (hk : -9223372036854775808 ≤ k ∧ k < 9223372036854775808) (c : Cx) (H : Tr AObj) (hsl : Sl c.R c.n0 H 1 a l.length code (u8s l)) (hle : s.at' ≤ l.length) (hl : l.length ≤ 2 ^ 20) (hby : ∀ x ∈ l, x < 256) :
    FnOK Tryz.prog lf 1 68 [.agg #[.slice a l.length code, .int .i64 (s.at' : Int), .int .i64 (s.err : Int)], .int .i64 k] c H
      (fun v n' H' => v = .tuple #[.int .u64 ((rNum l k s).1 : Int), .agg #[.slice a l.length code, .int .i64 ((rNum l k s).2.at' : Int), .int .i64 ((rNum l k s).2.err : Int)]]) := by
  refine fn_enter Tryz.func68 rfl fun d hd => ?_   -- (spyglass/spyglassref01.Reader).Num params [127, 3] results [45, 127]
  refine go_seq ?_
  refine go_region ?_   -- region 0 ref.go:78
  refine go_box rfl rfl rfl rfl rfl rfl rfl ?_
  refine go_assign rfl rfl rfl rfl rfl rfl  ?_
  refine go_alloc rfl rfl rfl rfl rfl zer_spyglassref01_Reader rfl ?_
  refine go_end ?_
  refine gon_seq ?_
  refine go_seq ?_
  refine go_seq ?_
  refine go_region ?_   -- region 1 ref.go:79
  refine go_fieldAddr rfl rfl rfl rfl rfl rfl fo_spyglassref01_Reader_2 ?_
  refine go_load rfl rfl rfl rfl rfl rfl agg_int (by omega) (by repeat (first | assumption | exact Tr.get_set_eq _ _ _ | rw [Tr.get_set_ne _ _ (by omega)])) rfl (fun h => by first | exact absurd h (by simp only [Nat.not_lt]; omega) | exact .inl (by assumption) | exact .inr (by assumption)) ?_
  refine go_bin rfl rfl rfl rfl rfl rfl rfl rfl i_neq ?_
  refine go_end ?_
  refine gon_seq ?_
  refine go_cond rfl (fun hc1 => ?_) (fun hc1 => ?_)
  · skip
    refine go_seq ?_
    refine go_region ?_   -- region 2 DRAW ref.go:80
    refine go_loadAD rfl rfl rfl rfl rfl rfl agg_spyglassref01_Reader siz_spyglassref01_Reader (by omega) (by repeat (first | assumption | exact Tr.get_set_eq _ _ _ | rw [Tr.get_set_ne _ _ (by omega)])) rfl (fun h => by first | exact absurd h (by simp only [Nat.not_lt]; omega) | exact .inl (by assumption) | exact .inr (by assumption)) ?_
    refine go_assignD rfl rfl rfl rfl rfl rfl  ?_
    refine go_storeD rfl rfl rfl rfl rfl siz_spyglassref01_Reader rfl (by omega) (by repeat (first | assumption | exact Tr.get_set_eq _ _ _ | rw [Tr.get_set_ne _ _ (by omega)])) rfl rfl (fun h => by first | exact absurd h (by simp only [Nat.not_lt]; omega) | assumption) ?_
    refine go_endD (.inr (by simp [apartAll, apartOne, apartP, aheadBits, edgeBits, Region.binds, nth] <;> omega)) ?_
    refine gon_seq ?_
    refine go_ret ?_
    refine go_result ?_
    refine gov_tmp rfl ?_
    refine gov_cellA rfl agg_spyglassref01_Reader siz_spyglassref01_Reader (by omega) (by repeat (first | assumption | exact Tr.get_set_eq _ _ _ | rw [Tr.get_set_ne _ _ (by omega)])) rfl (fun h => by first | exact absurd h (by simp only [Nat.not_lt]; omega) | exact .inl (by assumption) | exact .inr (by assumption)) ?_
    refine gov_nil ?_
    have he : s.err ≠ 0 := by simp at hc1; omega
    have : rNum l k s = (0, s) := by simp [rNum, he]
    rw [this]; rfl
  · skip
    refine go_skip ?_
    refine gon_seq ?_
    refine go_seq ?_
    refine go_seq ?_
    refine go_region ?_   -- region 3 ref.go:82
    refine go_move rfl rfl rfl rfl rfl rfl  ?_
    refine go_bin rfl rfl rfl rfl rfl rfl rfl rfl i_lss ?_
    refine go_move rfl rfl rfl rfl rfl rfl  ?_
    refine go_moveG rfl rfl rfl rfl rfl rfl rfl rfl rfl rfl (fun _ => rfl)  ?_
    refine go_binG rfl rfl rfl rfl rfl rfl rfl rfl rfl rfl (fun h => h) rfl (fun _ => rfl) rfl i_gtr ?_
    refine go_pick_or rfl rfl rfl rfl rfl rfl rfl rfl (fun h => pick_r rfl h) ?_
    refine go_end ?_
    refine gon_seq ?_
    have he : s.err = 0 := by simp at hc1; omega
    refine go_cond rfl (fun hc2 => ?_) (fun hc2 => ?_)
    · skip
      refine go_seq ?_
      refine go_region ?_   -- region 4 ref.go:83
      refine go_fieldAddr rfl rfl rfl rfl rfl rfl fo_spyglassref01_Reader_2 ?_
      refine go_store rfl rfl rfl rfl rfl siz_int rfl (by omega) (by repeat (first | assumption | exact Tr.get_set_eq _ _ _ | rw [Tr.get_set_ne _ _ (by omega)])) rfl rfl (fun h => by first | exact absurd h (by simp only [Nat.not_lt]; omega) | assumption) ?_
      refine go_end ?_
      refine gon_seq ?_
      refine go_seq ?_
      refine go_region ?_   -- region 5 DRAW ref.go:84
      refine go_loadAD rfl rfl rfl rfl rfl rfl agg_spyglassref01_Reader siz_spyglassref01_Reader (by omega) (by repeat (first | assumption | exact Tr.get_set_eq _ _ _ | rw [Tr.get_set_ne _ _ (by omega)])) rfl (fun h => by first | exact absurd h (by simp only [Nat.not_lt]; omega) | exact .inl (by assumption) | exact .inr (by assumption)) ?_
      refine go_assignD rfl rfl rfl rfl rfl rfl  ?_
      refine go_storeD rfl rfl rfl rfl rfl siz_spyglassref01_Reader rfl (by omega) (by repeat (first | assumption | exact Tr.get_set_eq _ _ _ | rw [Tr.get_set_ne _ _ (by omega)])) rfl rfl (fun h => by first | exact absurd h (by simp only [Nat.not_lt]; omega) | assumption) ?_
      refine go_endD (.inr (by simp [apartAll, apartOne, apartP, aheadBits, edgeBits, Region.binds, nth] <;> omega)) ?_
      refine gon_seq ?_
      refine go_ret ?_
      refine go_result ?_
      refine gov_tmp rfl ?_
      refine gov_cellA rfl agg_spyglassref01_Reader siz_spyglassref01_Reader (by omega) (by repeat (first | assumption | exact Tr.get_set_eq _ _ _ | rw [Tr.get_set_ne _ _ (by omega)])) rfl (fun h => by first | exact absurd h (by simp only [Nat.not_lt]; omega) | exact .inl (by assumption) | exact .inr (by assumption)) ?_
      refine gov_nil ?_
      have hkk : k < 1 ∨ k > 8 := by simp at hc2; omega
      have : rNum l k s = (0, ⟨s.at', 1⟩) := by simp [rNum, he, hkk]
      rw [this]; rfl
    · skip
      refine go_skip ?_
      refine gon_seq ?_
      refine go_seq ?_
      refine go_seq ?_
      refine go_region ?_   -- region 6 ref.go:86
      refine go_fieldAddr rfl rfl rfl rfl rfl rfl fo_spyglassref01_Reader_0 ?_
      obtain ⟨q, rfl, hq1, hq8⟩ : ∃ q : Nat, k = (q : Int) ∧ 1 ≤ q ∧ q ≤ 8 := by
        simp at hc2; exact ⟨k.toNat, by omega, by omega, by omega⟩
      have hkk : ¬ ((q : Int) < 1 ∨ (q : Int) > 8) := by omega
      refine go_load rfl rfl rfl rfl rfl rfl agg_S_uint8 (by omega) (by repeat (first | assumption | exact Tr.get_set_eq _ _ _ | rw [Tr.get_set_ne _ _ (by omega)])) rfl (fun h => by first | exact absurd h (by simp only [Nat.not_lt]; omega) | exact .inl (by assumption) | exact .inr (by assumption)) ?_
      refine go_len rfl rfl rfl rfl rfl  rfl rfl rfl und_S_uint8 ?_
      refine go_fieldAddr rfl rfl rfl rfl rfl rfl fo_spyglassref01_Reader_1 ?_
      refine go_load rfl rfl rfl rfl rfl rfl agg_int (by omega) (by repeat (first | assumption | exact Tr.get_set_eq _ _ _ | rw [Tr.get_set_ne _ _ (by omega)])) rfl (fun h => by first | exact absurd h (by simp only [Nat.not_lt]; omega) | exact .inl (by assumption) | exact .inr (by assumption)) ?_
      refine go_bin rfl rfl rfl rfl rfl rfl rfl rfl (i_sub' (wrap_i64 (by omega) (by omega))) ?_
      refine go_move rfl rfl rfl rfl rfl rfl  ?_
      refine go_bin rfl rfl rfl rfl rfl rfl rfl rfl i_lss ?_
      refine go_end ?_
      refine gon_seq ?_
      refine go_cond rfl (fun hc3 => ?_) (fun hc3 => ?_)
      · skip
        refine go_seq ?_
        refine go_region ?_   -- region 7 ref.go:87
        refine go_fieldAddr rfl rfl rfl rfl rfl rfl fo_spyglassref01_Reader_2 ?_
        refine go_store rfl rfl rfl rfl rfl siz_int rfl (by omega) (by repeat (first | assumption | exact Tr.get_set_eq _ _ _ | rw [Tr.get_set_ne _ _ (by omega)])) rfl rfl (fun h => by first | exact absurd h (by simp only [Nat.not_lt]; omega) | assumption) ?_
        refine go_end ?_
        refine gon_seq ?_
        refine go_seq ?_
        refine go_region ?_   -- region 8 DRAW ref.go:88
        refine go_loadAD rfl rfl rfl rfl rfl rfl agg_spyglassref01_Reader siz_spyglassref01_Reader (by omega) (by repeat (first | assumption | exact Tr.get_set_eq _ _ _ | rw [Tr.get_set_ne _ _ (by omega)])) rfl (fun h => by first | exact absurd h (by simp only [Nat.not_lt]; omega) | exact .inl (by assumption) | exact .inr (by assumption)) ?_
        refine go_assignD rfl rfl rfl rfl rfl rfl  ?_
        refine go_storeD rfl rfl rfl rfl rfl siz_spyglassref01_Reader rfl (by omega) (by repeat (first | assumption | exact Tr.get_set_eq _ _ _ | rw [Tr.get_set_ne _ _ (by omega)])) rfl rfl (fun h => by first | exact absurd h (by simp only [Nat.not_lt]; omega) | assumption) ?_
        refine go_endD (.inr (by simp [apartAll, apartOne, apartP, aheadBits, edgeBits, Region.binds, nth] <;> omega)) ?_
        refine gon_seq ?_
        refine go_ret ?_
        refine go_result ?_
        refine gov_tmp rfl ?_
        refine gov_cellA rfl agg_spyglassref01_Reader siz_spyglassref01_Reader (by omega) (by repeat (first | assumption | exact Tr.get_set_eq _ _ _ | rw [Tr.get_set_ne _ _ (by omega)])) rfl (fun h => by first | exact absurd h (by simp only [Nat.not_lt]; omega) | exact .inl (by assumption) | exact .inr (by assumption)) ?_
        refine gov_nil ?_
        have hs : (l.length : Int) - (s.at' : Int) < (q : Int) := by simpa using hc3
        have : rNum l q s = (0, ⟨s.at', 2⟩) := by simp only [rNum, he]; rw [if_neg (by simp), if_neg hkk, if_pos hs]
        rw [this]; rfl
      · skip
        refine go_skip ?_
        refine gon_seq ?_
        refine go_seq ?_
        refine go_region ?_   -- region 9 ref.go:90
        refine go_assign rfl rfl rfl rfl rfl rfl  ?_
        refine go_end ?_
        refine gon_seq ?_
        refine go_seq ?_
        refine go_seq ?_
        refine go_region ?_   -- region 10 ref.go:91
        refine go_assign rfl rfl rfl rfl rfl rfl  ?_
        refine go_end ?_
        refine gon_seq ?_
        refine go_block ?_
        have hs : ¬ (l.length : Int) - (s.at' : Int) < (q : Int) := by simpa using hc3
        have hM : rNum l q s = (valB ((l.drop s.at').take q), ⟨s.at' + q, 0⟩) := by simp only [rNum, he]; rw [if_neg (by simp), if_neg hkk, if_neg hs]; rfl
        refine go_loop (X := Nat) (fun j => [(1, .int .i64 (q : Int)), (2, .pointer (some ⟨c.n0, 0, none⟩)), (5, .pointer (some ⟨c.n0 + 1, 0, none⟩)), (6, .int .u64 ((valB ((l.drop s.at').take j) : Nat) : Int)), (7, .int .i64 (j : Int))])
          (fun j n' H' => n' = c.n0 + 2 ∧ j ≤ q ∧ H'.get c.n0 = some (.cells [.slice a l.length code, .int .i64 (s.at' : Int), .int .i64 (s.err : Int)] true [] 0) ∧ H'.get (c.n0 + 1) = some (.cells [.slice none 0 0, .int .i64 0, .int .i64 0] true [] 0) ∧ ∀ b, b < c.n0 → H'.get b = H.get b) (fun j => q - j) 0 (by repeat' (first | exact trivial | rfl | (exact congrArg some (congrArg (Value.int _) (by omega))) | apply And.intro)) ?_ ?_ ?_
        · refine ⟨rfl, Nat.zero_le _, ?_, Tr.get_set_eq _ _ _, fun b hb => ?_⟩
          · rw [Tr.get_set_ne _ _ (by omega)]; exact Tr.get_set_eq _ _ _
          · rw [Tr.get_set_ne _ _ (by omega), Tr.get_set_ne _ _ (by omega)]
        · show q - 0 < lf
          omega
        · rintro j n' H' hle' hfr ⟨rfl, hj, hcell, hres, hoth⟩
          dsimp only at *
          refine go_seq ?_
          refine go_seq ?_
          refine go_region ?_   -- region 11 ref.go:91
          refine go_move rfl rfl rfl rfl rfl rfl  ?_
          refine go_move rfl rfl rfl rfl rfl rfl  ?_
          refine go_bin rfl rfl rfl rfl rfl rfl rfl rfl i_lss ?_
          refine go_end ?_
          refine gon_seq ?_
          refine go_cond rfl (fun hc5 => ?_) (fun hc5 => ?_)
          · skip
            refine go_skip ?_
            refine gon_seq ?_
            refine go_seq ?_
            refine go_block ?_
            refine go_region ?_   -- region 13 ref.go:92
            refine go_move rfl rfl rfl rfl rfl rfl  ?_
            have hjq : j < q := by simp at hc5; omega
            have hat : s.at' + j < l.length := by omega
            have hv := valB_take_lt hby s.at' j
            have hp : 256 ^ j ≤ 256 ^ 7 := Nat.pow_le_pow_right (by omega) (by omega)
            have hx := hby (l[s.at' + j]'hat) (List.getElem_mem _)
            have hsucc := valB_take_succ hat
            obtain ⟨b, i, cs, rw1, old, esz, ha, hb1, hb2, hb3, hb4⟩ := hsl.at hat
            refine go_bin rfl rfl rfl rfl rfl rfl rfl rfl (u_mul (b := 256) rfl rfl rfl (by show _ < 18446744073709551616; omega)) ?_
            refine go_fieldAddr rfl rfl rfl rfl rfl rfl fo_spyglassref01_Reader_0 ?_
            refine go_load rfl rfl rfl rfl rfl rfl agg_S_uint8 (by omega) (by repeat (first | assumption | exact Tr.get_set_eq _ _ _ | rw [Tr.get_set_ne _ _ (by omega)])) rfl (fun h => by first | exact absurd h (by simp only [Nat.not_lt]; omega) | exact .inl (by assumption) | exact .inr (by assumption)) ?_
            refine go_fieldAddr rfl rfl rfl rfl rfl rfl fo_spyglassref01_Reader_1 ?_
            refine go_load rfl rfl rfl rfl rfl rfl agg_int (by omega) (by repeat (first | assumption | exact Tr.get_set_eq _ _ _ | rw [Tr.get_set_ne _ _ (by omega)])) rfl (fun h => by first | exact absurd h (by simp only [Nat.not_lt]; omega) | exact .inl (by assumption) | exact .inr (by assumption)) ?_
            refine go_move rfl rfl rfl rfl rfl rfl  ?_
            refine go_bin rfl rfl rfl rfl rfl rfl rfl rfl (i_add' (wrap_i64 (by omega) (by omega))) ?_
            refine go_indexAddr (j := s.at' + j) rfl rfl rfl rfl rfl rfl rfl eltK_S_uint8 ha (by omega) hat ?_
            refine go_load rfl rfl rfl rfl rfl rfl agg_uint8 (Nat.lt_of_lt_of_le hb2 (by omega)) ((hoth b hb2).trans hb3) (v := .int .u8 ((l[s.at' + j]'hat : Nat) : Int)) (by rw [hb4 _ (by omega), Nat.mul_one, u8s_get, List.getElem?_eq_getElem hat]; rfl) (fun _ => .inl hb1) ?_
            refine go_conv rfl rfl rfl rfl rfl rfl und_uint8 und_uint64 (wrap_lt rfl (by show _ < 18446744073709551616; omega)) ?_
            refine go_bin rfl rfl rfl rfl rfl rfl rfl rfl (u_add rfl rfl rfl (by show _ < 18446744073709551616; omega)) ?_
            refine go_assign rfl rfl rfl rfl rfl rfl  ?_
            refine go_end ?_
            refine gon_block ?_
            refine gon_seq ?_
            refine go_region ?_   -- region 12 ref.go:91
            refine go_move rfl rfl rfl rfl rfl rfl  ?_
            refine go_bin rfl rfl rfl rfl rfl rfl rfl rfl (i_add' (wrap_i64 (by omega) (by omega))) ?_
            refine go_assign rfl rfl rfl rfl rfl rfl  ?_
            refine go_end ?_
            refine gon_loop ⟨j + 1, (by repeat' (first | exact trivial | rfl | (exact congrArg some (congrArg (Value.int _) (by omega))) | apply And.intro)), by show q - (j + 1) < q - j; omega, ?_⟩
            exact ⟨rfl, hjq, hcell, hres, hoth⟩
          · skip
            refine go_exit ?_
            refine gox_seq ?_
            refine gox_loop ?_
            refine gox_out ?_
            refine gon_seq ?_
            refine go_seq ?_
            refine go_region ?_   -- region 14 ref.go:94
            refine go_fieldAddr rfl rfl rfl rfl rfl rfl fo_spyglassref01_Reader_1 ?_
            have hjq : j = q := by simp at hc5; omega
            subst hjq
            refine go_load rfl rfl rfl rfl rfl rfl agg_int (by omega) (by repeat (first | assumption | exact Tr.get_set_eq _ _ _ | rw [Tr.get_set_ne _ _ (by omega)])) rfl (fun h => by first | exact absurd h (by simp only [Nat.not_lt]; omega) | exact .inl (by assumption) | exact .inr (by assumption)) ?_
            refine go_move rfl rfl rfl rfl rfl rfl  ?_
            refine go_bin rfl rfl rfl rfl rfl rfl rfl rfl (i_add' (wrap_i64 (by omega) (by omega))) ?_
            refine go_fieldAddr rfl rfl rfl rfl rfl rfl fo_spyglassref01_Reader_1 ?_
            refine go_store rfl rfl rfl rfl rfl siz_int rfl (by omega) (by repeat (first | assumption | exact Tr.get_set_eq _ _ _ | rw [Tr.get_set_ne _ _ (by omega)])) rfl rfl (fun h => by first | exact absurd h (by simp only [Nat.not_lt]; omega) | assumption) ?_
            refine go_end ?_
            refine gon_seq ?_
            refine go_seq ?_
            refine go_region ?_   -- region 15 DRAW ref.go:95
            refine go_moveD rfl rfl rfl rfl rfl rfl  ?_
            refine go_loadAD rfl rfl rfl rfl rfl rfl agg_spyglassref01_Reader siz_spyglassref01_Reader (by omega) (by repeat (first | assumption | exact Tr.get_set_eq _ _ _ | rw [Tr.get_set_ne _ _ (by omega)])) rfl (fun h => by first | exact absurd h (by simp only [Nat.not_lt]; omega) | exact .inl (by assumption) | exact .inr (by assumption)) ?_
            refine go_assignD rfl rfl rfl rfl rfl rfl  ?_
            refine go_storeD rfl rfl rfl rfl rfl siz_spyglassref01_Reader rfl (by omega) (by repeat (first | assumption | exact Tr.get_set_eq _ _ _ | rw [Tr.get_set_ne _ _ (by omega)])) rfl rfl (fun h => by first | exact absurd h (by simp only [Nat.not_lt]; omega) | assumption) ?_
            refine go_endD (.inr (by simp [apartAll, apartOne, apartP, aheadBits, edgeBits, Region.binds, nth] <;> omega)) ?_
            refine gon_seq ?_
            refine go_ret ?_
            refine go_result ?_
            refine gov_tmp rfl ?_
            refine gov_cellA rfl agg_spyglassref01_Reader siz_spyglassref01_Reader (by omega) (by repeat (first | assumption | exact Tr.get_set_eq _ _ _ | rw [Tr.get_set_ne _ _ (by omega)])) rfl (fun h => by first | exact absurd h (by simp only [Nat.not_lt]; omega) | exact .inl (by assumption) | exact .inr (by assumption)) ?_
            refine gov_nil ?_
            rw [hM, he]; rfl
theorem refVar_ok {lf : Nat} (hlf : 2 ^ 17 ≤ lf) {l : List Nat} {s : RS} {a : Option Addr} {code : Nat} (c : Cx) (H : Tr AObj) (hsl : Sl c.R c.n0 H 1 a l.length code (u8s l)) (hle : s.at' ≤ l.length) (hl : l.length ≤ 2 ^ 20) (hby : ∀ x ∈ l, x < 256) :
    FnOK Tryz.prog lf 1 69 [.agg #[.slice a l.length code, .int .i64 (s.at' : Int), .int .i64 (s.err : Int)]] c H
      (fun v n' H' => v = .tuple #[.int .u64 ((rVar l s).1 : Int), .agg #[.slice a l.length code, .int .i64 ((rVar l s).2.at' : Int), .int .i64 ((rVar l s).2.err : Int)]]) := by
  refine fn_enter Tryz.func69 rfl fun d hd => ?_   -- (spyglass/spyglassref01.Reader).Var params [127] results [45, 127]
  refine go_seq ?_
  refine go_region ?_   -- region 0 ref.go:99
  refine go_box rfl rfl rfl rfl rfl rfl rfl ?_
  refine go_assign rfl rfl rfl rfl rfl rfl  ?_
  refine go_alloc rfl rfl rfl rfl rfl zer_spyglassref01_Reader rfl ?_
  refine go_end ?_
  refine gon_seq ?_
  refine go_seq ?_
  refine go_seq ?_
  refine go_region ?_   -- region 1 ref.go:100
  refine go_fieldAddr rfl rfl rfl rfl rfl rfl fo_spyglassref01_Reader_2 ?_
  refine go_load rfl rfl rfl rfl rfl rfl agg_int (by omega) (by repeat (first | assumption | exact Tr.get_set_eq _ _ _ | rw [Tr.get_set_ne _ _ (by omega)])) rfl (fun h => by first | exact absurd h (by simp only [Nat.not_lt]; omega) | exact .inl (by assumption) | exact .inr (by assumption)) ?_
  refine go_bin rfl rfl rfl rfl rfl rfl rfl rfl i_neq ?_
  refine go_end ?_
  refine gon_seq ?_
  refine go_cond rfl (fun hc1 => ?_) (fun hc1 => ?_)
  · skip
    refine go_seq ?_
    refine go_region ?_   -- region 2 DRAW ref.go:101
    refine go_loadAD rfl rfl rfl rfl rfl rfl agg_spyglassref01_Reader siz_spyglassref01_Reader (by omega) (by repeat (first | assumption | exact Tr.get_set_eq _ _ _ | rw [Tr.get_set_ne _ _ (by omega)])) rfl (fun h => by first | exact absurd h (by simp only [Nat.not_lt]; omega) | exact .inl (by assumption) | exact .inr (by assumption)) ?_
    refine go_assignD rfl rfl rfl rfl rfl rfl  ?_
    refine go_storeD rfl rfl rfl rfl rfl siz_spyglassref01_Reader rfl (by omega) (by repeat (first | assumption | exact Tr.get_set_eq _ _ _ | rw [Tr.get_set_ne _ _ (by omega)])) rfl rfl (fun h => by first | exact absurd h (by simp only [Nat.not_lt]; omega) | assumption) ?_
    refine go_endD (.inr (by simp [apartAll, apartOne, apartP, aheadBits, edgeBits, Region.binds, nth] <;> omega)) ?_
    refine gon_seq ?_
    refine go_ret ?_
    refine go_result ?_
    refine gov_tmp rfl ?_
    refine gov_cellA rfl agg_spyglassref01_Reader siz_spyglassref01_Reader (by omega) (by repeat (first | assumption | exact Tr.get_set_eq _ _ _ | rw [Tr.get_set_ne _ _ (by omega)])) rfl (fun h => by first | exact absurd h (by simp only [Nat.not_lt]; omega) | exact .inl (by assumption) | exact .inr (by assumption)) ?_
    refine gov_nil ?_
    have he : s.err ≠ 0 := by simp at hc1; omega
    have : rVar l s = (0, s) := by simp [rVar, he]
    rw [this]; rfl
  · skip
    refine go_skip ?_
    refine gon_seq ?_
    refine go_seq ?_
    refine go_region ?_   -- region 3 ref.go:103
    refine go_assign rfl rfl rfl rfl rfl rfl  ?_
    refine go_end ?_
    refine gon_seq ?_
    refine go_seq ?_
    refine go_block ?_
    have he : s.err = 0 := by simp at hc1; omega
    refine go_loop (X := Nat) (fun k => [(1, .pointer (some ⟨c.n0, 0, none⟩)), (3, .pointer (some ⟨c.n0 + 1, 0, none⟩)), (4, .int .i64 (k : Int))])
      (fun k n' H' => n' = c.n0 + 2 ∧ H'.get c.n0 = some (.cells [.slice a l.length code, .int .i64 (s.at' : Int), .int .i64 0] true [] 0) ∧ H'.get (c.n0 + 1) = some (.cells [.slice none 0 0, .int .i64 0, .int .i64 0] true [] 0) ∧ (∀ b, b < c.n0 → H'.get b = H.get b) ∧
        rVarF k (valV ((l.drop s.at').take k)) (l.drop (s.at' + k)) = rVarF 0 0 (l.drop s.at') ∧ k ≤ 9 ∧ s.at' + k ≤ l.length) (fun k => 9 - k) 0 (by repeat' (first | exact trivial | rfl | (exact congrArg some (congrArg (Value.int _) (by omega))) | apply And.intro)) ?_ ?_ ?_
    · refine ⟨rfl, ?_, Tr.get_set_eq _ _ _, fun b hb => ?_, rfl, by omega, hle⟩
      · rw [Tr.get_set_ne _ _ (by omega), Tr.get_set_eq, he]; rfl
      · rw [Tr.get_set_ne _ _ (by omega), Tr.get_set_ne _ _ (by omega)]
    · show 9 - 0 < lf
      omega
    · rintro k n' H' hle' hfr ⟨rfl, hcell, hres, hoth, hrv, hk9, hatk⟩
      dsimp only at *
      refine go_block ?_
      refine go_seq ?_
      refine go_seq ?_
      refine go_region ?_   -- region 4 ref.go:105
      refine go_fieldAddr rfl rfl rfl rfl rfl rfl fo_spyglassref01_Reader_1 ?_
      refine go_load rfl rfl rfl rfl rfl rfl agg_int (by omega) (by repeat (first | assumption | exact Tr.get_set_eq _ _ _ | rw [Tr.get_set_ne _ _ (by omega)])) rfl (fun h => by first | exact absurd h (by simp only [Nat.not_lt]; omega) | exact .inl (by assumption) | exact .inr (by assumption)) ?_
      refine go_move rfl rfl rfl rfl rfl rfl  ?_
      refine go_bin rfl rfl rfl rfl rfl rfl rfl rfl (i_add' (wrap_i64 (by omega) (by omega))) ?_
      refine go_fieldAddr rfl rfl rfl rfl rfl rfl fo_spyglassref01_Reader_0 ?_
      refine go_load rfl rfl rfl rfl rfl rfl agg_S_uint8 (by omega) (by repeat (first | assumption | exact Tr.get_set_eq _ _ _ | rw [Tr.get_set_ne _ _ (by omega)])) rfl (fun h => by first | exact absurd h (by simp only [Nat.not_lt]; omega) | exact .inl (by assumption) | exact .inr (by assumption)) ?_
      refine go_len rfl rfl rfl rfl rfl  rfl rfl rfl und_S_uint8 ?_
      refine go_bin rfl rfl rfl rfl rfl rfl rfl rfl i_geq ?_
      refine go_end ?_
      refine gon_seq ?_
      refine go_cond rfl (fun hc3 => ?_) (fun hc3 => ?_)
      · skip
        refine go_seq ?_
        refine go_region ?_   -- region 5 ref.go:106
        refine go_fieldAddr rfl rfl rfl rfl rfl rfl fo_spyglassref01_Reader_2 ?_
        refine go_store rfl rfl rfl rfl rfl siz_int rfl (by omega) (by repeat (first | assumption | exact Tr.get_set_eq _ _ _ | rw [Tr.get_set_ne _ _ (by omega)])) rfl rfl (fun h => by first | exact absurd h (by simp only [Nat.not_lt]; omega) | assumption) ?_
        refine go_end ?_
        refine gon_seq ?_
        refine go_seq ?_
        refine go_region ?_   -- region 6 DRAW ref.go:107
        refine go_loadAD rfl rfl rfl rfl rfl rfl agg_spyglassref01_Reader siz_spyglassref01_Reader (by omega) (by repeat (first | assumption | exact Tr.get_set_eq _ _ _ | rw [Tr.get_set_ne _ _ (by omega)])) rfl (fun h => by first | exact absurd h (by simp only [Nat.not_lt]; omega) | exact .inl (by assumption) | exact .inr (by assumption)) ?_
        refine go_assignD rfl rfl rfl rfl rfl rfl  ?_
        refine go_storeD rfl rfl rfl rfl rfl siz_spyglassref01_Reader rfl (by omega) (by repeat (first | assumption | exact Tr.get_set_eq _ _ _ | rw [Tr.get_set_ne _ _ (by omega)])) rfl rfl (fun h => by first | exact absurd h (by simp only [Nat.not_lt]; omega) | assumption) ?_
        refine go_endD (.inr (by simp [apartAll, apartOne, apartP, aheadBits, edgeBits, Region.binds, nth] <;> omega)) ?_
        refine gon_seq ?_
        refine go_ret ?_
        refine go_result ?_
        refine gov_tmp rfl ?_
        refine gov_cellA rfl agg_spyglassref01_Reader siz_spyglassref01_Reader (by omega) (by repeat (first | assumption | exact Tr.get_set_eq _ _ _ | rw [Tr.get_set_ne _ _ (by omega)])) rfl (fun h => by first | exact absurd h (by simp only [Nat.not_lt]; omega) | exact .inl (by assumption) | exact .inr (by assumption)) ?_
        refine gov_nil ?_
        have hd : l.drop (s.at' + k) = [] := List.drop_eq_nil_of_le (by simp at hc3; omega)
        rw [hd] at hrv
        have : rVar l s = (0, ⟨s.at', 2⟩) := by simp [rVar, he, ← hrv, rVarF]
        rw [this]; rfl
      · skip
        refine go_skip ?_
        refine gon_seq ?_
        refine go_seq ?_
        refine go_region ?_   -- region 7 ref.go:109
        refine go_fieldAddr rfl rfl rfl rfl rfl rfl fo_spyglassref01_Reader_0 ?_
        have hat : s.at' + k < l.length := by simp at hc3; omega
        have hx := hby (l[s.at' + k]'hat) (List.getElem_mem _)
        have htk : (l.drop s.at').take (k + 1) = (l.drop s.at').take k ++ [l[s.at' + k]'hat] := by rw [List.take_add_one, List.getElem?_drop, List.getElem?_eq_getElem hat]; rfl
        rw [List.drop_eq_getElem_cons hat, rVarF] at hrv
        generalize hd : l[s.at' + k]'hat = d at hrv hx htk
        have hlk : ((l.drop s.at').take k).length = k := by simp; omega
        have hV : valV ((l.drop s.at').take (k + 1)) = valV ((l.drop s.at').take k) + d % 128 * 128 ^ k := by rw [htk, valV_app, hlk, Nat.mul_comm]; simp [valV]
        obtain ⟨b, i', cs, rw1, old, esz, ha, hb1, hb2, hb3, hb4⟩ := hsl.at hat
        refine go_load rfl rfl rfl rfl rfl rfl agg_S_uint8 (by omega) (by repeat (first | assumption | exact Tr.get_set_eq _ _ _ | rw [Tr.get_set_ne _ _ (by omega)])) rfl (fun h => by first | exact absurd h (by simp only [Nat.not_lt]; omega) | exact .inl (by assumption) | exact .inr (by assumption)) ?_
        refine go_fieldAddr rfl rfl rfl rfl rfl rfl fo_spyglassref01_Reader_1 ?_
        refine go_load rfl rfl rfl rfl rfl rfl agg_int (by omega) (by repeat (first | assumption | exact Tr.get_set_eq _ _ _ | rw [Tr.get_set_ne _ _ (by omega)])) rfl (fun h => by first | exact absurd h (by simp only [Nat.not_lt]; omega) | exact .inl (by assumption) | exact .inr (by assumption)) ?_
        refine go_move rfl rfl rfl rfl rfl rfl  ?_
        refine go_bin rfl rfl rfl rfl rfl rfl rfl rfl (i_add' (wrap_i64 (by omega) (by omega))) ?_
        refine go_indexAddr (j := s.at' + k) rfl rfl rfl rfl rfl rfl rfl eltK_S_uint8 ha (by omega) hat ?_
        refine go_load rfl rfl rfl rfl rfl rfl agg_uint8 (Nat.lt_of_lt_of_le hb2 (by omega)) ((hoth b hb2).trans hb3) (v := .int .u8 ((d : Nat) : Int)) (by rw [hb4 _ (by omega), Nat.mul_one, u8s_get, List.getElem?_eq_getElem hat, hd]; rfl) (fun _ => .inl hb1) ?_
        refine go_assign rfl rfl rfl rfl rfl rfl  ?_
        refine go_end ?_
        refine gon_seq ?_
        refine go_seq ?_
        refine go_seq ?_
        refine go_region ?_   -- region 8 ref.go:110
        refine go_move rfl rfl rfl rfl rfl rfl  ?_
        refine go_bin rfl rfl rfl rfl rfl rfl rfl rfl i_eql ?_
        refine go_move rfl rfl rfl rfl rfl rfl  ?_
        refine go_moveG rfl rfl rfl rfl rfl rfl rfl rfl rfl rfl (fun _ => rfl)  ?_
        refine go_binG rfl rfl rfl rfl rfl rfl rfl rfl rfl rfl (fun h => h) rfl (fun _ => rfl) rfl i_gtr ?_
        refine go_pick_and rfl rfl rfl rfl rfl rfl rfl rfl (fun h => pick_r rfl h) ?_
        refine go_move rfl rfl rfl rfl rfl rfl  ?_
        refine go_moveG rfl rfl rfl rfl rfl rfl rfl rfl rfl rfl (fun _ => rfl)  ?_
        refine go_binG rfl rfl rfl rfl rfl rfl rfl rfl rfl rfl (fun h => h) rfl (fun _ => rfl) rfl i_gtr ?_
        refine go_moveG rfl rfl rfl rfl rfl rfl rfl rfl rfl rfl (fun h => h)  ?_
        refine go_moveG rfl rfl rfl rfl rfl rfl rfl rfl rfl rfl (fun _ => rfl)  ?_
        refine go_binG rfl rfl rfl rfl rfl rfl rfl rfl rfl rfl (fun h => h) rfl (fun _ => rfl) rfl i_eql ?_
        refine go_pick_andG rfl rfl rfl rfl rfl rfl rfl rfl rfl rfl (fun h => h) rfl rfl (fun h hp => pick_r ((fun h => h) h) hp) ?_
        refine go_pick_or rfl rfl rfl rfl rfl rfl rfl rfl (fun h => pick_r rfl h) ?_
        refine go_end ?_
        refine gon_seq ?_
        refine go_cond rfl (fun hc4 => ?_) (fun hc4 => ?_)
        · skip
          refine go_seq ?_
          refine go_region ?_   -- region 9 ref.go:111
          refine go_fieldAddr rfl rfl rfl rfl rfl rfl fo_spyglassref01_Reader_2 ?_
          refine go_store rfl rfl rfl rfl rfl siz_int rfl (by omega) (by repeat (first | assumption | exact Tr.get_set_eq _ _ _ | rw [Tr.get_set_ne _ _ (by omega)])) rfl rfl (fun h => by first | exact absurd h (by simp only [Nat.not_lt]; omega) | assumption) ?_
          refine go_end ?_
          refine gon_seq ?_
          refine go_seq ?_
          refine go_region ?_   -- region 10 DRAW ref.go:112
          refine go_loadAD rfl rfl rfl rfl rfl rfl agg_spyglassref01_Reader siz_spyglassref01_Reader (by omega) (by repeat (first | assumption | exact Tr.get_set_eq _ _ _ | rw [Tr.get_set_ne _ _ (by omega)])) rfl (fun h => by first | exact absurd h (by simp only [Nat.not_lt]; omega) | exact .inl (by assumption) | exact .inr (by assumption)) ?_
          refine go_assignD rfl rfl rfl rfl rfl rfl  ?_
          refine go_storeD rfl rfl rfl rfl rfl siz_spyglassref01_Reader rfl (by omega) (by repeat (first | assumption | exact Tr.get_set_eq _ _ _ | rw [Tr.get_set_ne _ _ (by omega)])) rfl rfl (fun h => by first | exact absurd h (by simp only [Nat.not_lt]; omega) | assumption) ?_
          refine go_endD (.inr (by simp [apartAll, apartOne, apartP, aheadBits, edgeBits, Region.binds, nth] <;> omega)) ?_
          refine gon_seq ?_
          refine go_ret ?_
          refine go_result ?_
          refine gov_tmp rfl ?_
          refine gov_cellA rfl agg_spyglassref01_Reader siz_spyglassref01_Reader (by omega) (by repeat (first | assumption | exact Tr.get_set_eq _ _ _ | rw [Tr.get_set_ne _ _ (by omega)])) rfl (fun h => by first | exact absurd h (by simp only [Nat.not_lt]; omega) | exact .inl (by assumption) | exact .inr (by assumption)) ?_
          refine gov_nil ?_
          have hbad : (k = 9 ∧ d > 1) ∨ (k > 0 ∧ d = 0) := by simp at hc4; omega
          rw [if_pos hbad] at hrv
          have : rVar l s = (0, ⟨s.at', 3⟩) := by simp [rVar, he, ← hrv]
          rw [this]; rfl
        · skip
          refine go_skip ?_
          refine gon_seq ?_
          refine go_seq ?_
          refine go_region ?_   -- region 11 ref.go:114
          refine go_move rfl rfl rfl rfl rfl rfl  ?_
          refine go_bin rfl rfl rfl rfl rfl rfl rfl rfl (i_add' (wrap_i64 (by omega) (by omega))) ?_
          refine go_assign rfl rfl rfl rfl rfl rfl  ?_
          refine go_end ?_
          refine gon_seq ?_
          refine go_seq ?_
          refine go_region ?_   -- region 12 ref.go:115
          refine go_move rfl rfl rfl rfl rfl rfl  ?_
          refine go_bin rfl rfl rfl rfl rfl rfl rfl rfl i_lss ?_
          refine go_end ?_
          refine gon_seq ?_
          have hgood : ¬ ((k = 9 ∧ d > 1) ∨ (k > 0 ∧ d = 0)) := by simp at hc4; omega
          rw [if_neg hgood, ← hV] at hrv
          refine go_cond rfl (fun hc5 => ?_) (fun hc5 => ?_)
          · skip
            refine go_exit ?_
            refine gox_block rfl ?_
            refine gox_loop ?_
            refine gox_out ?_
            refine gon_seq ?_
            refine go_seq ?_
            refine go_region ?_   -- region 13 ref.go:119
            refine go_assign rfl rfl rfl rfl rfl rfl  ?_
            refine go_end ?_
            refine gon_seq ?_
            refine go_seq ?_
            refine go_seq ?_
            refine go_region ?_   -- region 14 ref.go:120
            refine go_move rfl rfl rfl rfl rfl rfl  ?_
            refine go_bin rfl rfl rfl rfl rfl rfl rfl rfl (i_sub' (wrap_i64 (by omega) (by omega))) ?_
            refine go_assign rfl rfl rfl rfl rfl rfl  ?_
            refine go_end ?_
            refine gon_seq ?_
            refine go_block ?_
            have hlt : d < 128 := by simp at hc5; omega
            rw [if_pos hlt] at hrv
            have hM : rVar l s = (valV ((l.drop s.at').take (k + 1)), ⟨s.at' + (k + 1), 0⟩) := by simp only [rVar, he, ← hrv]; simp
            generalize hB : (l.drop s.at').take (k + 1) = B at hM hV htk
            have hBl : B.length = k + 1 := by rw [← hB]; simp; omega
            have hB64 : valV B < 18446744073709551616 := by
              rw [hV]
              have h1 := valV_lt ((l.drop s.at').take k)
              rw [hlk] at h1
              by_cases h9 : k = 9
              · subst h9
                have : d % 128 ≤ 1 := by omega
                have := Nat.mul_le_mul_right (128 ^ 9) this
                omega
              · have h2 : d % 128 ≤ 127 := by omega
                have h3 := Nat.mul_le_mul_right (128 ^ k) h2
                have h4 : 128 ^ k ≤ 128 ^ 8 := Nat.pow_le_pow_right (by omega) (by omega)
                omega
            refine go_loop (X := Nat) (fun r => [(1, .pointer (some ⟨c.n0, 0, none⟩)), (3, .pointer (some ⟨c.n0 + 1, 0, none⟩)), (4, .int .i64 ((k : Int) + 1)), (6, .int .u64 ((valV (B.drop r) : Nat) : Int)), (7, .int .i64 ((r : Int) - 1))])
              (fun r n' H'' => n' = c.n0 + 2 ∧ H'' = H' ∧ r ≤ k + 1) (fun r => r) (k + 1) ⟨rfl, rfl, rfl, ?_, ?_, trivial⟩ ?_ ?_ ?_
            · rw [List.drop_of_length_le (by omega)]; rfl
            · exact congrArg some (congrArg (Value.int _) (by omega))
            · exact ⟨rfl, rfl, Nat.le_refl _⟩
            · show k + 1 < lf
              omega
            · rintro r n' H'' hle'' hfr'' ⟨rfl, rfl, hr⟩
              dsimp only at *
              refine go_seq ?_
              refine go_seq ?_
              refine go_region ?_   -- region 15 ref.go:120
              refine go_move rfl rfl rfl rfl rfl rfl  ?_
              refine go_bin rfl rfl rfl rfl rfl rfl rfl rfl i_geq ?_
              refine go_end ?_
              refine gon_seq ?_
              refine go_cond rfl (fun hc7 => ?_) (fun hc7 => ?_)
              · skip
                refine go_skip ?_
                refine gon_seq ?_
                refine go_seq ?_
                refine go_block ?_
                refine go_region ?_   -- region 17 ref.go:121
                refine go_move rfl rfl rfl rfl rfl rfl  ?_
                obtain ⟨r, rfl⟩ : ∃ r', r = r' + 1 := ⟨r - 1, by simp at hc7; omega⟩
                have hrl : r < B.length := by omega
                have hdr : valV (B.drop r) = B[r]'hrl % 128 + 128 * valV (B.drop (r + 1)) := by rw [List.drop_eq_getElem_cons hrl, valV]
                have hdl := valV_drop B r
                have hat2 : s.at' + r < l.length := by omega
                have hBr : B[r]'hrl = l[s.at' + r]'hat2 := by subst hB; simp
                obtain ⟨b2, i2, cs2, rw2, old2, esz2, ha2, hb12, hb22, hb32, hb42⟩ := hsl.at hat2
                refine go_bin rfl rfl rfl rfl rfl rfl rfl rfl (u_mul (b := 128) rfl rfl rfl (by show _ < 18446744073709551616; omega)) ?_
                refine go_fieldAddr rfl rfl rfl rfl rfl rfl fo_spyglassref01_Reader_0 ?_
                refine go_load rfl rfl rfl rfl rfl rfl agg_S_uint8 (by omega) (by repeat (first | assumption | exact Tr.get_set_eq _ _ _ | rw [Tr.get_set_ne _ _ (by omega)])) rfl (fun h => by first | exact absurd h (by simp only [Nat.not_lt]; omega) | exact .inl (by assumption) | exact .inr (by assumption)) ?_
                refine go_fieldAddr rfl rfl rfl rfl rfl rfl fo_spyglassref01_Reader_1 ?_
                refine go_load rfl rfl rfl rfl rfl rfl agg_int (by omega) (by repeat (first | assumption | exact Tr.get_set_eq _ _ _ | rw [Tr.get_set_ne _ _ (by omega)])) rfl (fun h => by first | exact absurd h (by simp only [Nat.not_lt]; omega) | exact .inl (by assumption) | exact .inr (by assumption)) ?_
                refine go_move rfl rfl rfl rfl rfl rfl  ?_
                refine go_bin rfl rfl rfl rfl rfl rfl rfl rfl (i_add' (wrap_i64 (by omega) (by omega))) ?_
                refine go_indexAddr (j := s.at' + r) rfl rfl rfl rfl rfl rfl rfl eltK_S_uint8 ha2 (by omega) hat2 ?_
                refine go_load rfl rfl rfl rfl rfl rfl agg_uint8 (Nat.lt_of_lt_of_le hb22 (by omega)) ((hoth b2 hb22).trans hb32) (v := .int .u8 ((B[r]'hrl : Nat) : Int)) (by rw [hb42 _ (by omega), Nat.mul_one, u8s_get, List.getElem?_eq_getElem hat2, hBr]; rfl) (fun _ => .inl hb12) ?_
                refine go_bin rfl rfl rfl rfl rfl rfl rfl rfl (u_rem (b := 128) rfl rfl rfl (by omega)) ?_
                refine go_conv rfl rfl rfl rfl rfl rfl und_uint8 und_uint64 (wrap_lt rfl (by show _ < 18446744073709551616; omega)) ?_
                refine go_bin rfl rfl rfl rfl rfl rfl rfl rfl (u_add rfl rfl rfl (by show _ < 18446744073709551616; omega)) ?_
                refine go_assign rfl rfl rfl rfl rfl rfl  ?_
                refine go_end ?_
                refine gon_block ?_
                refine gon_seq ?_
                refine go_region ?_   -- region 16 ref.go:120
                refine go_move rfl rfl rfl rfl rfl rfl  ?_
                refine go_bin rfl rfl rfl rfl rfl rfl rfl rfl (i_sub' (wrap_i64 (by omega) (by omega))) ?_
                refine go_assign rfl rfl rfl rfl rfl rfl  ?_
                refine go_end ?_
                refine gon_loop ⟨r, (by repeat' (first | exact trivial | rfl | (exact congrArg some (congrArg (Value.int _) (by omega))) | apply And.intro)), Nat.lt_succ_self _, ?_⟩
                exact ⟨rfl, rfl, by omega⟩
              · skip
                refine go_exit ?_
                refine gox_seq ?_
                refine gox_loop ?_
                refine gox_out ?_
                refine gon_seq ?_
                refine go_seq ?_
                refine go_region ?_   -- region 18 ref.go:123
                refine go_fieldAddr rfl rfl rfl rfl rfl rfl fo_spyglassref01_Reader_1 ?_
                have hr0 : r = 0 := by simp at hc7; omega
                subst hr0
                refine go_load rfl rfl rfl rfl rfl rfl agg_int (by omega) (by repeat (first | assumption | exact Tr.get_set_eq _ _ _ | rw [Tr.get_set_ne _ _ (by omega)])) rfl (fun h => by first | exact absurd h (by simp only [Nat.not_lt]; omega) | exact .inl (by assumption) | exact .inr (by assumption)) ?_
                refine go_move rfl rfl rfl rfl rfl rfl  ?_
                refine go_bin rfl rfl rfl rfl rfl rfl rfl rfl (i_add' (wrap_i64 (by omega) (by omega))) ?_
                refine go_fieldAddr rfl rfl rfl rfl rfl rfl fo_spyglassref01_Reader_1 ?_
                refine go_store rfl rfl rfl rfl rfl siz_int rfl (by omega) (by repeat (first | assumption | exact Tr.get_set_eq _ _ _ | rw [Tr.get_set_ne _ _ (by omega)])) rfl rfl (fun h => by first | exact absurd h (by simp only [Nat.not_lt]; omega) | assumption) ?_
                refine go_end ?_
                refine gon_seq ?_
                refine go_seq ?_
                refine go_region ?_   -- region 19 DRAW ref.go:124
                refine go_moveD rfl rfl rfl rfl rfl rfl  ?_
                refine go_loadAD rfl rfl rfl rfl rfl rfl agg_spyglassref01_Reader siz_spyglassref01_Reader (by omega) (by repeat (first | assumption | exact Tr.get_set_eq _ _ _ | rw [Tr.get_set_ne _ _ (by omega)])) rfl (fun h => by first | exact absurd h (by simp only [Nat.not_lt]; omega) | exact .inl (by assumption) | exact .inr (by assumption)) ?_
                refine go_assignD rfl rfl rfl rfl rfl rfl  ?_
                refine go_storeD rfl rfl rfl rfl rfl siz_spyglassref01_Reader rfl (by omega) (by repeat (first | assumption | exact Tr.get_set_eq _ _ _ | rw [Tr.get_set_ne _ _ (by omega)])) rfl rfl (fun h => by first | exact absurd h (by simp only [Nat.not_lt]; omega) | assumption) ?_
                refine go_endD (.inr (by simp [apartAll, apartOne, apartP, aheadBits, edgeBits, Region.binds, nth] <;> omega)) ?_
                refine gon_seq ?_
                refine go_ret ?_
                refine go_result ?_
                refine gov_tmp rfl ?_
                refine gov_cellA rfl agg_spyglassref01_Reader siz_spyglassref01_Reader (by omega) (by repeat (first | assumption | exact Tr.get_set_eq _ _ _ | rw [Tr.get_set_ne _ _ (by omega)])) rfl (fun h => by first | exact absurd h (by simp only [Nat.not_lt]; omega) | exact .inl (by assumption) | exact .inr (by assumption)) ?_
                refine gov_nil ?_
                rw [hM]
                exact congrArg (fun z => Value.tuple #[.int .u64 ((valV B : Nat) : Int), .agg #[.slice a l.length code, .int .i64 z, .int .i64 0]]) (show ((s.at' : Int) + ((k : Int) + 1)) = ((s.at' + (k + 1) : Nat) : Int) by omega)
          · skip
            refine go_skip ?_
            refine gon_block ?_
            have hlt : ¬ d < 128 := by simp at hc5; omega
            rw [if_neg hlt] at hrv
            have hk8 : k ≠ 9 := fun e => by subst e; omega
            refine gon_loop ⟨k + 1, (by repeat' (first | exact trivial | rfl | (exact congrArg some (congrArg (Value.int _) (by omega))) | apply And.intro)), by show 9 - (k + 1) < 9 - k; omega, ?_⟩
            exact ⟨rfl, hcell, hres, hoth, by rw [← hrv]; rfl, by omega, hat⟩
end Go.Proofs.YtmebclfkkloccaaGreatDoor

