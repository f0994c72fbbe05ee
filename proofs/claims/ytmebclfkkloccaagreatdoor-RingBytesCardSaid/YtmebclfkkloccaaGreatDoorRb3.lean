/- The walks of an instruction's bytes, laid. Written by wip/shade/sk.py from wip/rb/rb3.plan. -/
import Derived.Test.YtmebclfkkloccaaGreatDoorLibC
import Derived.Test.YtmebclfkkloccaaGreatDoorRb2
namespace Go.Proofs.YtmebclfkkloccaaGreatDoor
open Go.Shade
set_option maxRecDepth 100000
set_option linter.unusedVariables false
set_option linter.unusedSimpArgs false
theorem ringPut_ok {lf : Nat} (hlf : 2 ^ 17 ≤ lf) {v : Int} {base n : Nat} {a : Option Addr} {m code : Nat} {dl : List Nat} (hb : base < 2 ^ 64) (hn : n < 2 ^ 64) (c : Cx) (H : Tr AObj) (hs : Sl c.R c.n0 H 1 a m code (u8s dl)) (hm : m ≤ 2 ^ 20) :
    FnOK Tryz.prog lf 2 24 [.int .i64 v, .int .u64 (base : Int), .int .u64 (n : Int), .slice a m code] c H (fun r n' H' => ∃ a' code', r = .tuple #[.slice a' (putM v base n dl).1.length code', .int .i64 ((putM v base n dl).2 : Int)] ∧ New c.n0 n' H' 1 a' (putM v base n dl).1.length code' (u8s (putM v base n dl).1)) := by
  have hlen : dl.length = m := by simpa [u8s_length] using hs.length
  refine fn_enter Tryz.func24 rfl fun d hd => ?_   -- spyglass/ring.Put params [3, 45, 45, 46] results [46, 51]
  refine go_seq ?_
  refine go_region ?_   -- region 0 ring.go:13
  refine go_assign rfl rfl rfl rfl rfl rfl  ?_
  refine go_assign rfl rfl rfl rfl rfl rfl  ?_
  refine go_end ?_
  refine gon_seq ?_
  refine go_seq ?_
  refine go_seq ?_
  refine go_region ?_   -- region 1 ring.go:14
  refine go_move rfl rfl rfl rfl rfl rfl  ?_
  refine go_end ?_
  refine gon_seq ?_
  refine go_block ?_
  refine go_seq ?_
  refine go_region ?_   -- region 2 ring.go:15
  refine go_bin rfl rfl rfl rfl rfl rfl rfl rfl i_eql ?_
  refine go_assign rfl rfl rfl rfl rfl rfl  ?_
  refine go_end ?_
  refine gon_seq ?_
  refine go_cond rfl (fun hc1 => ?_) (fun hc1 => ?_)
  · skip
    refine go_seq ?_
    refine go_region ?_   -- region 3 ring.go:16
    refine go_move rfl rfl rfl rfl rfl rfl  ?_
    -- call spyglass/wire.Num
    obtain rfl : v = 1 := by simpa using hc1
    refine go_call (fun _ => False) (fun _ => False) rfl rfl rfl rfl rfl rfl rfl rfl rfl (wireNum_ok hlf base 8 hb ⟨_, (fun _ => False), (fun _ => False)⟩ _ d hd) (fun _ _ h => h.elim) (fun _ _ h => h.elim) (fun v1 n1 H1 hle1 hfr1 hp1 => ?_)
    obtain ⟨a1, code1, rfl, hn1⟩ := hp1
    try dsimp only at hn1
    refine go_move rfl rfl rfl rfl rfl rfl  ?_
    -- call spyglass/wire.Num
    refine go_call (fun _ => False) (fun _ => False) rfl rfl rfl rfl rfl rfl rfl rfl rfl (wireNum_ok hlf n 8 hn ⟨_, (fun _ => False), (fun _ => False)⟩ _ d hd) (fun _ _ h => h.elim) (fun _ _ h => h.elim) (fun v2 n2 H2 hle2 hfr2 hp2 => ?_)
    obtain ⟨a2, code2, rfl, hn2⟩ := hp2
    try dsimp only at hn2
    have l1 : (numM base 8).length = 8 := by rw [numM_8, numB_length]
    have l2 : (numM n 8).length = 8 := by rw [numM_8, numB_length]
    refine go_appendN rfl rfl rfl rfl rfl rfl rfl rfl (.inl ⟨_, und_S_uint8⟩) eltA_S_uint8 rfl rfl (hn2.rd (by omega))
      (hn1.mono hle2 (Nat.le_refl _) (fun b h1 h2 => hfr2 b h2 (fun h => h))) (u8s_one _) (u8s_one _) (by decide) (by decide) (by decide) (by omega) (by simp [u8s_length]) (by omega) (Nat.le_refl _) (fun a3 code3 n3 H3 hle3 hfr3 hnew3 hblk3 => ?_)
    have f3 : ∀ b, b < c.n0 → H3.get b = H.get b := fun b hb => by rw [hfr3 b (by omega) (fun h => by have := (hn1.blk h).1; omega), hfr2 b (by omega) (fun h => h), hfr1 b hb (fun h => h)]
    refine go_move rfl rfl rfl rfl rfl rfl  ?_
    refine go_appendN rfl rfl rfl rfl rfl rfl rfl rfl (.inl ⟨_, und_S_uint8⟩) eltA_S_uint8 rfl rfl ((hs.frame (by omega) (fun _ h => h) (fun b _ hb => f3 b hb)).rd (fun b h _ => .inl h))
      hnew3 (by rw [← u8s_append]; exact u8s_one _) (u8s_one _) (by decide) (by decide) (by decide) (by omega) (by simp [u8s_length, hlen]) (by omega) (Nat.le_refl _) (fun a4 code4 n4 H4 hle4 hfr4 hnew4 hblk4 => ?_)
    refine go_assign rfl rfl rfl rfl rfl rfl  ?_
    refine go_assign rfl rfl rfl rfl rfl rfl  ?_
    refine go_end ?_
    refine gon_seq ?_
    refine go_ret ?_
    refine go_result ?_
    refine gov_tmp rfl ?_
    refine gov_tmp rfl ?_
    refine gov_nil ?_
    have hM : putM 1 base n dl = (numM base 8 ++ numM n 8 ++ dl, 0) := by simp [putM, numM_8]
    rw [hM]
    refine ⟨a4, code4, by simp [tupled, hlen, Nat.add_assoc], ?_⟩
    rw [← u8s_append, ← u8s_append] at hnew4
    simpa [hlen, Nat.add_assoc] using hnew4
  · skip
    have hv1 : v ≠ 1 := by simpa using hc1
    refine go_join (X := Unit) (fun _ => [(1, .int .u64 (base : Int)), (2, .int .u64 (n : Int)), (3, .slice a m code), (20, .bool (decide (v = 2) || decide (v = 3)))]) (fun _ n' H' => n' = c.n0 ∧ H' = H) ?_ ?_
    · skip
      refine go_seq ?_
      refine go_region ?_   -- region 4 ring.go:17
      refine go_bin rfl rfl rfl rfl rfl rfl rfl rfl i_eql ?_
      refine go_assign rfl rfl rfl rfl rfl rfl  ?_
      refine go_end ?_
      refine gon_seq ?_
      refine go_cond rfl (fun hc2 => ?_) (fun hc2 => ?_)
      · skip
        refine go_skip ?_
        have : v = 2 := by simpa using hc2
        subst this
        refine gon_loop ⟨(), (by repeat' (first | exact trivial | rfl | (exact congrArg some (congrArg (Value.int _) (by omega))) | apply And.intro)), rfl, rfl⟩
      · skip
        refine go_region ?_   -- region 5 ring.go:17
        refine go_bin rfl rfl rfl rfl rfl rfl rfl rfl i_eql ?_
        refine go_assign rfl rfl rfl rfl rfl rfl  ?_
        refine go_end ?_
        have : v ≠ 2 := by simpa using hc2
        refine gon_loop ⟨(), ⟨rfl, rfl, rfl, ?_, trivial⟩, rfl, rfl⟩
        show some (Value.bool (decide (v = 3))) = _
        simp [this]
    · rintro ⟨⟩ n' H' hle hfr ⟨rfl, rfl⟩
      refine go_cond rfl (fun hc3 => ?_) (fun hc3 => ?_)
      · skip
        refine go_seq ?_
        refine go_region ?_   -- region 6 ring.go:18
        refine go_move rfl rfl rfl rfl rfl rfl  ?_
        -- call spyglass/wire.Var
        have hv : v = 2 ∨ v = 3 := by simpa using hc3
        have h1 := varB_10 hb
        have h2 := varB_10 hn
        refine go_call (fun _ => False) (fun _ => False) rfl rfl rfl rfl rfl rfl rfl rfl rfl (wireVar_ok hlf base hb ⟨_, (fun _ => False), (fun _ => False)⟩ _ d hd) (fun _ _ h => h.elim) (fun _ _ h => h.elim) (fun v1 n1 H1 hle1 hfr1 hp1 => ?_)
        obtain ⟨a1, code1, rfl, hn1⟩ := hp1
        try dsimp only at hn1
        refine go_move rfl rfl rfl rfl rfl rfl  ?_
        -- call spyglass/wire.Var
        refine go_call (fun _ => False) (fun _ => False) rfl rfl rfl rfl rfl rfl rfl rfl rfl (wireVar_ok hlf n hn ⟨_, (fun _ => False), (fun _ => False)⟩ _ d hd) (fun _ _ h => h.elim) (fun _ _ h => h.elim) (fun v2 n2 H2 hle2 hfr2 hp2 => ?_)
        obtain ⟨a2, code2, rfl, hn2⟩ := hp2
        try dsimp only at hn2
        refine go_appendN rfl rfl rfl rfl rfl rfl rfl rfl (.inl ⟨_, und_S_uint8⟩) eltA_S_uint8 rfl rfl (hn2.rd (by omega))
          (hn1.mono hle2 (Nat.le_refl _) (fun b h1 h2 => hfr2 b h2 (fun h => h))) (u8s_one _) (u8s_one _) (by decide) (by decide) (by decide) (by omega) (by simp [u8s_length]) (by omega) (Nat.le_refl _) (fun a3 code3 n3 H3 hle3 hfr3 hnew3 hblk3 => ?_)
        have f3 : ∀ b, b < c.n0 → H3.get b = H'.get b := fun b hb => by rw [hfr3 b (by omega) (fun h => by have := (hn1.blk h).1; omega), hfr2 b (by omega) (fun h => h), hfr1 b hb (fun h => h)]
        refine go_move rfl rfl rfl rfl rfl rfl  ?_
        refine go_appendN rfl rfl rfl rfl rfl rfl rfl rfl (.inl ⟨_, und_S_uint8⟩) eltA_S_uint8 rfl rfl ((hs.frame (by omega) (fun _ h => h) (fun b _ hb => f3 b hb)).rd (fun b h _ => .inl h))
          hnew3 (by rw [← u8s_append]; exact u8s_one _) (u8s_one _) (by decide) (by decide) (by decide) (by omega) (by simp [u8s_length, hlen]) (by omega) (Nat.le_refl _) (fun a4 code4 n4 H4 hle4 hfr4 hnew4 hblk4 => ?_)
        refine go_assign rfl rfl rfl rfl rfl rfl  ?_
        refine go_assign rfl rfl rfl rfl rfl rfl  ?_
        refine go_end ?_
        refine gon_seq ?_
        refine go_ret ?_
        refine go_result ?_
        refine gov_tmp rfl ?_
        refine gov_tmp rfl ?_
        refine gov_nil ?_
        have hM : putM v base n dl = (varB base ++ varB n ++ dl, 0) := by simp [putM, hv1, hv]
        rw [hM]
        refine ⟨a4, code4, by simp [tupled, hlen, Nat.add_assoc], ?_⟩
        rw [← u8s_append, ← u8s_append] at hnew4
        simpa [hlen, Nat.add_assoc] using hnew4
      · skip
        refine go_skip ?_
        refine gon_block ?_
        refine gon_seq ?_
        refine go_seq ?_
        refine go_region ?_   -- region 7 ring.go:20
        refine go_assign rfl rfl rfl rfl rfl rfl  ?_
        refine go_assign rfl rfl rfl rfl rfl rfl  ?_
        refine go_end ?_
        refine gon_seq ?_
        refine go_ret ?_
        refine go_result ?_
        refine gov_tmp rfl ?_
        refine gov_tmp rfl ?_
        refine gov_nil ?_
        have hv : ¬ (v = 2 ∨ v = 3) := by simpa using hc3
        have hM : putM v base n dl = ([], 1) := by simp only [putM]; rw [if_neg hv1, if_neg hv]
        rw [hM]
        exact ⟨none, 0, rfl, .nil⟩
theorem ref25Put_ok {lf : Nat} (hlf : 2 ^ 17 ≤ lf) {v : Int} {base n : Nat} {a : Option Addr} {m code : Nat} {dl : List Nat} (hb : base < 2 ^ 64) (hn : n < 2 ^ 64) (c : Cx) (H : Tr AObj) (hs : Sl c.R c.n0 H 1 a m code (u8s dl)) (hm : m ≤ 2 ^ 20) :
    FnOK Tryz.prog lf 2 25 [.int .i64 v, .int .u64 (base : Int), .int .u64 (n : Int), .slice a m code] c H (fun r n' H' => ∃ a' code', r = .tuple #[.slice a' (putM v base n dl).1.length code', .int .i64 ((putM v base n dl).2 : Int)] ∧ New c.n0 n' H' 1 a' (putM v base n dl).1.length code' (u8s (putM v base n dl).1)) := by
  have hlen : dl.length = m := by simpa [u8s_length] using hs.length
  refine fn_enter Tryz.func25 rfl fun d hd => ?_   -- spyglass/spyglassref25.Put params [3, 45, 45, 46] results [46, 3]
  refine go_seq ?_
  refine go_region ?_   -- region 0 ref.go:12
  refine go_assign rfl rfl rfl rfl rfl rfl  ?_
  refine go_assign rfl rfl rfl rfl rfl rfl  ?_
  refine go_end ?_
  refine gon_seq ?_
  refine go_seq ?_
  refine go_seq ?_
  refine go_region ?_   -- region 1 ref.go:13
  refine go_move rfl rfl rfl rfl rfl rfl  ?_
  refine go_bin rfl rfl rfl rfl rfl rfl rfl rfl i_lss ?_
  refine go_move rfl rfl rfl rfl rfl rfl  ?_
  refine go_moveG rfl rfl rfl rfl rfl rfl rfl rfl rfl rfl (fun _ => rfl)  ?_
  refine go_binG rfl rfl rfl rfl rfl rfl rfl rfl rfl rfl (fun h => h) rfl (fun _ => rfl) rfl i_gtr ?_
  refine go_pick_or rfl rfl rfl rfl rfl rfl rfl rfl (fun h => pick_r rfl h) ?_
  refine go_end ?_
  refine gon_seq ?_
  refine go_cond rfl (fun hc1 => ?_) (fun hc1 => ?_)
  · skip
    refine go_seq ?_
    refine go_region ?_   -- region 2 ref.go:14
    refine go_assign rfl rfl rfl rfl rfl rfl  ?_
    refine go_assign rfl rfl rfl rfl rfl rfl  ?_
    refine go_end ?_
    refine gon_seq ?_
    refine go_ret ?_
    refine go_result ?_
    refine gov_tmp rfl ?_
    refine gov_tmp rfl ?_
    refine gov_nil ?_
    have hv : v < 1 ∨ v > 3 := by simpa using hc1
    have hM : putM v base n dl = ([], 1) := by simp only [putM]; rw [if_neg (by omega), if_neg (by omega)]
    rw [hM]
    exact ⟨none, 0, rfl, .nil⟩
  · skip
    refine go_skip ?_
    refine gon_seq ?_
    refine go_seq ?_
    refine go_region ?_   -- region 3 ref.go:16
    refine go_move rfl rfl rfl rfl rfl rfl  ?_
    -- call spyglass/spyglassref01.Var
    have hv : ¬ (v < 1 ∨ v > 3) := by simpa using hc1
    have h1 := varB_10 hb
    have h2 := varB_10 hn
    refine go_call (fun _ => False) (fun _ => False) rfl rfl rfl rfl rfl rfl rfl rfl rfl (ref1Var_ok hlf base hb ⟨_, (fun _ => False), (fun _ => False)⟩ _ d hd) (fun _ _ h => h.elim) (fun _ _ h => h.elim) (fun v1 n1 H1 hle1 hfr1 hp1 => ?_)
    obtain ⟨a1, code1, rfl, hn1⟩ := hp1
    try dsimp only at hn1
    refine go_move rfl rfl rfl rfl rfl rfl  ?_
    -- call spyglass/spyglassref01.Var
    refine go_call (fun _ => False) (fun _ => False) rfl rfl rfl rfl rfl rfl rfl rfl rfl (ref1Var_ok hlf n hn ⟨_, (fun _ => False), (fun _ => False)⟩ _ d hd) (fun _ _ h => h.elim) (fun _ _ h => h.elim) (fun v2 n2 H2 hle2 hfr2 hp2 => ?_)
    obtain ⟨a2, code2, rfl, hn2⟩ := hp2
    try dsimp only at hn2
    refine go_appendN rfl rfl rfl rfl rfl rfl rfl rfl (.inl ⟨_, und_S_uint8⟩) eltA_S_uint8 rfl rfl (hn2.rd (by omega))
      (hn1.mono hle2 (Nat.le_refl _) (fun b h1 h2 => hfr2 b h2 (fun h => h))) (u8s_one _) (u8s_one _) (by decide) (by decide) (by decide) (by omega) (by simp [u8s_length]) (by omega) (Nat.le_refl _) (fun a3 code3 n3 H3 hle3 hfr3 hnew3 hblk3 => ?_)
    have f3 : ∀ b, b < c.n0 → H3.get b = H.get b := fun b hb => by rw [hfr3 b (by omega) (fun h => by have := (hn1.blk h).1; omega), hfr2 b (by omega) (fun h => h), hfr1 b hb (fun h => h)]
    rw [← u8s_append] at hnew3
    refine go_assign rfl rfl rfl rfl rfl rfl  ?_
    refine go_end ?_
    refine gon_seq ?_
    refine go_join (X := Option Addr × Nat × Nat) (fun x => [(3, .slice a m code), (10, .slice x.1 x.2.1 x.2.2)]) (fun x n' H' => c.n0 ≤ n' ∧ (∀ b, b < c.n0 → H'.get b = H.get b) ∧ x.2.1 ≤ 40 ∧ ∃ hd : List Nat, hd.length = x.2.1 ∧ putM v base n dl = (hd ++ dl, 0) ∧ New c.n0 n' H' 1 x.1 x.2.1 x.2.2 (u8s hd)) ?_ ?_
    · skip
      refine go_seq ?_
      refine go_region ?_   -- region 4 ref.go:17
      refine go_move rfl rfl rfl rfl rfl rfl  ?_
      refine go_bin rfl rfl rfl rfl rfl rfl rfl rfl i_eql ?_
      refine go_end ?_
      refine gon_seq ?_
      refine go_cond rfl (fun hc2 => ?_) (fun hc2 => ?_)
      · skip
        refine go_region ?_   -- region 5 ref.go:18
        refine go_move rfl rfl rfl rfl rfl rfl  ?_
        -- call spyglass/spyglassref01.Num
        obtain rfl : v = 1 := by simpa using hc2
        refine go_call (fun _ => False) (fun _ => False) rfl rfl rfl rfl rfl rfl rfl rfl rfl (ref1Num_ok hlf base 8 hb ⟨_, (fun _ => False), (fun _ => False)⟩ _ d hd) (fun _ _ h => h.elim) (fun _ _ h => h.elim) (fun v4 n4 H4 hle4 hfr4 hp4 => ?_)
        obtain ⟨a4, code4, rfl, hn4⟩ := hp4
        try dsimp only at hn4
        refine go_move rfl rfl rfl rfl rfl rfl  ?_
        -- call spyglass/spyglassref01.Num
        refine go_call (fun _ => False) (fun _ => False) rfl rfl rfl rfl rfl rfl rfl rfl rfl (ref1Num_ok hlf n 8 hn ⟨_, (fun _ => False), (fun _ => False)⟩ _ d hd) (fun _ _ h => h.elim) (fun _ _ h => h.elim) (fun v5 n5 H5 hle5 hfr5 hp5 => ?_)
        obtain ⟨a5, code5, rfl, hn5⟩ := hp5
        try dsimp only at hn5
        have l4 : (numM base 8).length = 8 := by rw [numM_8, numB_length]
        have l5 : (numM n 8).length = 8 := by rw [numM_8, numB_length]
        refine go_appendN rfl rfl rfl rfl rfl rfl rfl rfl (.inl ⟨_, und_S_uint8⟩) eltA_S_uint8 rfl rfl (hn5.rd (show c.n0 ≤ n4 by omega))
          (hn4.mono (lo' := c.n0) hle5 (by omega) (fun b h1 h2 => hfr5 b h2 (fun h => h))) (u8s_one _) (u8s_one _) (by decide) (by decide) (by decide) (by omega) (by simp [u8s_length]) (by omega) (Nat.le_refl _) (fun a6 code6 n6 H6 hle6 hfr6 hnew6 hblk6 => ?_)
        rw [← u8s_append] at hnew6
        refine go_assign rfl rfl rfl rfl rfl rfl  ?_
        refine go_end ?_
        refine gon_loop ⟨(a6, _, code6), (by repeat' (first | exact trivial | rfl | (exact congrArg some (congrArg (Value.int _) (by omega))) | apply And.intro)), by show c.n0 ≤ n6; omega, fun b hb => ?_, by show (numM base 8).length + (numM n 8).length ≤ 40; omega, numM base 8 ++ numM n 8, by simp, by simp [putM, numM_8], hnew6⟩
        rw [hfr6 b (by omega) (fun h => by have := (hn4.blk h).1; omega), hfr5 b (by omega) (fun h => h), hfr4 b (by omega) (fun h => h), f3 b hb]
      · skip
        refine go_skip ?_
        have hv1 : v ≠ 1 := by simpa using hc2
        refine gon_loop ⟨(a3, _, code3), (by repeat' (first | exact trivial | rfl | (exact congrArg some (congrArg (Value.int _) (by omega))) | apply And.intro)), by show c.n0 ≤ n3; omega, f3, by show (varB base).length + (varB n).length ≤ 40; omega, varB base ++ varB n, by simp, ?_, hnew3⟩
        simp only [putM]; rw [if_neg hv1, if_pos (by omega)]
    · rintro ⟨ax, mx, codex⟩ n7 H7 hle7 hfr7 ⟨hc7, f7, hm7, hdl, hdl1, hM, hnew7⟩
      dsimp only at *
      refine go_seq ?_
      refine go_region ?_   -- region 6 ref.go:20
      refine go_move rfl rfl rfl rfl rfl rfl  ?_
      refine go_move rfl rfl rfl rfl rfl rfl  ?_
      refine go_appendN rfl rfl rfl rfl rfl rfl rfl rfl (.inl ⟨_, und_S_uint8⟩) eltA_S_uint8 rfl rfl ((hs.frame hc7 (fun _ h => h) (fun b _ hb => f7 b hb)).rd (fun b h _ => .inl h))
        hnew7 (u8s_one _) (u8s_one _) (by decide) (by decide) (by decide) (by omega) (by simp [u8s_length, hlen]) (by omega) (Nat.le_refl _) (fun a8 code8 n8 H8 hle8 hfr8 hnew8 hblk8 => ?_)
      refine go_assign rfl rfl rfl rfl rfl rfl  ?_
      refine go_assign rfl rfl rfl rfl rfl rfl  ?_
      refine go_end ?_
      refine gon_seq ?_
      refine go_ret ?_
      refine go_result ?_
      refine gov_tmp rfl ?_
      refine gov_tmp rfl ?_
      refine gov_nil ?_
      rw [hM]
      refine ⟨a8, code8, by simp [tupled, hlen, hdl1], ?_⟩
      rw [← u8s_append] at hnew8
      simpa [hlen, hdl1] using hnew8
theorem ringGet_ok {lf : Nat} (hlf : 2 ^ 17 ≤ lf) {v : Int} {a : Option Addr} {m code : Nat} {l : List Nat} (c : Cx) (H : Tr AObj) (hs : Sl c.R c.n0 H 1 a m code (u8s l)) (hm : m ≤ 2 ^ 20) (hby : ∀ x ∈ l, x < 256) :
    FnOK Tryz.prog lf 2 26 [.int .i64 v, .slice a m code] c H (fun r n' H' => ∃ a' code', r = .tuple #[.int .u64 ((getM v l).1 : Int), .int .u64 ((getM v l).2.1 : Int), .slice a' (getM v l).2.2.1.length code', .int .i64 ((getM v l).2.2.2 : Int)] ∧ New c.n0 n' H' 1 a' (getM v l).2.2.1.length code' (u8s (getM v l).2.2.1)) := by
  have hlen : l.length = m := by simpa [u8s_length] using hs.length
  refine fn_enter Tryz.func26 rfl fun d hd => ?_   -- spyglass/ring.Get params [3, 46] results [45, 45, 46, 51]
  refine go_seq ?_
  refine go_region ?_   -- region 0 ring.go:24
  refine go_assign rfl rfl rfl rfl rfl rfl  ?_
  refine go_assign rfl rfl rfl rfl rfl rfl  ?_
  refine go_assign rfl rfl rfl rfl rfl rfl  ?_
  refine go_assign rfl rfl rfl rfl rfl rfl  ?_
  refine go_end ?_
  refine gon_seq ?_
  refine go_seq ?_
  refine go_region ?_   -- region 1 ring.go:25
  refine go_move rfl rfl rfl rfl rfl rfl  ?_
  -- call spyglass/wire.New
  refine go_call c.R (fun _ => False) rfl rfl rfl rfl rfl rfl rfl rfl rfl (wireNew_ok ⟨c.n0, c.R, fun _ => False⟩ _ hs (by omega) d hd) (fun _ _ h => .inl h) (fun _ _ h => h.elim) (fun v1 n1 H1 hle1 hfr1 hp1 => ?_)
  obtain ⟨br, rfl, hr1⟩ := hp1
  try dsimp only at hr1
  have hl20 : l.length ≤ 2 ^ 20 := by omega
  have wW : ∀ b, b < c.n0 → b = br → c.W b := fun b hb e => by have := hr1.lo; omega
  have wR : ∀ b, b < c.n0 → c.n0 ≤ b → c.R b ∨ c.W b := fun b hb e => by omega
  refine go_assign rfl rfl rfl rfl rfl rfl  ?_
  refine go_end ?_
  refine gon_seq ?_
  refine go_join (X := Unit) (fun _ => [(4, .int .u64 ((getS v l ⟨0, 0⟩).1 : Int)), (5, .int .u64 ((getS v l (getS v l ⟨0, 0⟩).2).1 : Int)), (8, .pointer (some ⟨br, 0, none⟩))])
    (fun _ n' H' => 1 ≤ v ∧ v ≤ 3 ∧ Rdr c.n0 n' H' br l (getS v l (getS v l ⟨0, 0⟩).2).2.at' (getS v l (getS v l ⟨0, 0⟩).2).2.err) ?_ ?_
  · skip
    refine go_seq ?_
    refine go_region ?_   -- region 2 ring.go:26
    refine go_move rfl rfl rfl rfl rfl rfl  ?_
    refine go_end ?_
    refine gon_seq ?_
    refine go_block ?_
    refine go_seq ?_
    refine go_region ?_   -- region 4 ring.go:27
    refine go_bin rfl rfl rfl rfl rfl rfl rfl rfl i_eql ?_
    refine go_assign rfl rfl rfl rfl rfl rfl  ?_
    refine go_end ?_
    refine gon_seq ?_
    refine go_cond rfl (fun hc1 => ?_) (fun hc1 => ?_)
    · skip
      refine go_region ?_   -- region 5 ring.go:28
      refine go_move rfl rfl rfl rfl rfl rfl  ?_
      -- call (*spyglass/wire.Reader).Num
      obtain rfl : v = 1 := by simpa using hc1
      refine go_call (fun b => c.n0 ≤ b) (fun b => b = br) rfl rfl rfl rfl rfl rfl rfl rfl rfl (rdrNum_ok (s := ⟨0, 0⟩) hlf (by omega) ⟨_, (fun b => c.n0 ≤ b), (fun b => b = br)⟩ _ hr1 hl20 hby (fun b h _ => h) rfl d hd) wR wW (fun v2 n2 H2 hle2 hfr2 hp2 => ?_)
      obtain ⟨rfl, hr2⟩ := hp2
      try dsimp only at hr2
      refine go_move rfl rfl rfl rfl rfl rfl  ?_
      -- call (*spyglass/wire.Reader).Num
      refine go_call (fun b => c.n0 ≤ b) (fun b => b = br) rfl rfl rfl rfl rfl rfl rfl rfl rfl (rdrNum_ok hlf (by omega) ⟨_, (fun b => c.n0 ≤ b), (fun b => b = br)⟩ _ hr2 hl20 hby (fun b h _ => h) rfl d hd) wR wW (fun v3 n3 H3 hle3 hfr3 hp3 => ?_)
      obtain ⟨rfl, hr3⟩ := hp3
      try dsimp only at hr3
      refine go_assign rfl rfl rfl rfl rfl rfl  ?_
      refine go_assign rfl rfl rfl rfl rfl rfl  ?_
      refine go_end ?_
      refine gon_block ?_
      refine gon_loop ⟨(), (by repeat' (first | exact trivial | rfl | (exact congrArg some (congrArg (Value.int _) (by omega))) | apply And.intro)), by omega, by omega, hr3⟩
    · skip
      have hv1 : v ≠ 1 := by simpa using hc1
      refine go_join (X := Unit) (fun _ => [(8, .pointer (some ⟨br, 0, none⟩)), (18, .bool (decide (v = 2) || decide (v = 3)))]) (fun _ n' H' => n' = n1 ∧ H' = H1) ?_ ?_
      · skip
        refine go_seq ?_
        refine go_region ?_   -- region 6 ring.go:29
        refine go_bin rfl rfl rfl rfl rfl rfl rfl rfl i_eql ?_
        refine go_assign rfl rfl rfl rfl rfl rfl  ?_
        refine go_end ?_
        refine gon_seq ?_
        refine go_cond rfl (fun hc2 => ?_) (fun hc2 => ?_)
        · skip
          refine go_skip ?_
          have : v = 2 := by simpa using hc2
          subst this
          refine gon_loop ⟨(), (by repeat' (first | exact trivial | rfl | (exact congrArg some (congrArg (Value.int _) (by omega))) | apply And.intro)), rfl, rfl⟩
        · skip
          refine go_region ?_   -- region 7 ring.go:29
          refine go_bin rfl rfl rfl rfl rfl rfl rfl rfl i_eql ?_
          refine go_assign rfl rfl rfl rfl rfl rfl  ?_
          refine go_end ?_
          have : v ≠ 2 := by simpa using hc2
          refine gon_loop ⟨(), ⟨rfl, ?_, trivial⟩, rfl, rfl⟩
          show some (Value.bool (decide (v = 3))) = _
          simp [this]
      · rintro ⟨⟩ n' H' hle hfr ⟨rfl, rfl⟩
        refine go_cond rfl (fun hc3 => ?_) (fun hc3 => ?_)
        · skip
          refine go_region ?_   -- region 8 ring.go:30
          refine go_move rfl rfl rfl rfl rfl rfl  ?_
          -- call (*spyglass/wire.Reader).Var
          have hv : v = 2 ∨ v = 3 := by simpa using hc3
          have hgs : ∀ s, getS v l s = rVar l s := fun s => by simp [getS, hv1]
          refine go_call (fun b => c.n0 ≤ b) (fun b => b = br) rfl rfl rfl rfl rfl rfl rfl rfl rfl (rdrVar_ok (s := ⟨0, 0⟩) hlf ⟨_, (fun b => c.n0 ≤ b), (fun b => b = br)⟩ _ hr1 hl20 hby (fun b h _ => h) rfl d hd) wR wW (fun v2 n2 H2 hle2 hfr2 hp2 => ?_)
          obtain ⟨rfl, hr2⟩ := hp2
          try dsimp only at hr2
          refine go_move rfl rfl rfl rfl rfl rfl  ?_
          -- call (*spyglass/wire.Reader).Var
          refine go_call (fun b => c.n0 ≤ b) (fun b => b = br) rfl rfl rfl rfl rfl rfl rfl rfl rfl (rdrVar_ok hlf ⟨_, (fun b => c.n0 ≤ b), (fun b => b = br)⟩ _ hr2 hl20 hby (fun b h _ => h) rfl d hd) wR wW (fun v3 n3 H3 hle3 hfr3 hp3 => ?_)
          obtain ⟨rfl, hr3⟩ := hp3
          try dsimp only at hr3
          refine go_assign rfl rfl rfl rfl rfl rfl  ?_
          refine go_assign rfl rfl rfl rfl rfl rfl  ?_
          refine go_end ?_
          refine gon_block ?_
          refine gon_loop ⟨(), ?_, by omega, by omega, ?_⟩
          · rw [hgs, hgs]; exact (by repeat' (first | exact trivial | rfl | (exact congrArg some (congrArg (Value.int _) (by omega))) | apply And.intro))
          rw [hgs, hgs]; exact hr3
        · skip
          refine go_seq ?_
          refine go_region ?_   -- region 3 ring.go:32
          refine go_assign rfl rfl rfl rfl rfl rfl  ?_
          refine go_assign rfl rfl rfl rfl rfl rfl  ?_
          refine go_assign rfl rfl rfl rfl rfl rfl  ?_
          refine go_assign rfl rfl rfl rfl rfl rfl  ?_
          refine go_end ?_
          refine gon_seq ?_
          refine go_ret ?_
          refine go_result ?_
          refine gov_tmp rfl ?_
          refine gov_tmp rfl ?_
          refine gov_tmp rfl ?_
          refine gov_tmp rfl ?_
          refine gov_nil ?_
          have hv : ¬ (v = 2 ∨ v = 3) := by simpa using hc3
          have hM : getM v l = (0, 0, [], 1) := by simp only [getM]; rw [if_pos (by omega)]
          rw [hM]
          exact ⟨none, 0, rfl, .nil⟩
  · rintro ⟨⟩ n4 H4 hle4 hfr4 ⟨hva, hvb, hr4⟩
    dsimp only at *
    have hgv : ¬ (v < 1 ∨ v > 3) := by omega
    refine go_seq ?_
    refine go_seq ?_
    refine go_region ?_   -- region 9 ring.go:34
    refine go_move rfl rfl rfl rfl rfl rfl  ?_
    -- call (*spyglass/wire.Reader).Err
    refine go_call (fun b => c.n0 ≤ b) (fun _ => False) rfl rfl rfl rfl rfl rfl rfl rfl rfl (rdrErr_ok ⟨_, (fun b => c.n0 ≤ b), (fun _ => False)⟩ _ hr4 (fun b h _ => h) d hd) wR (fun _ _ h => h.elim) (fun v5 n5 H5 hle5 hfr5 hp5 => ?_)
    obtain ⟨rfl, rfl, rfl⟩ := hp5
    refine go_bin rfl rfl rfl rfl rfl rfl rfl rfl i_neq ?_
    refine go_end ?_
    refine gon_seq ?_
    refine go_cond rfl (fun hc4 => ?_) (fun hc4 => ?_)
    · skip
      refine go_seq ?_
      refine go_region ?_   -- region 10 ring.go:35
      refine go_move rfl rfl rfl rfl rfl rfl  ?_
      -- call (*spyglass/wire.Reader).Err
      refine go_call (fun b => c.n0 ≤ b) (fun _ => False) rfl rfl rfl rfl rfl rfl rfl rfl rfl (rdrErr_ok ⟨_, (fun b => c.n0 ≤ b), (fun _ => False)⟩ _ hr4 (fun b h _ => h) d hd) wR (fun _ _ h => h.elim) (fun v6 n6 H6 hle6 hfr6 hp6 => ?_)
      obtain ⟨rfl, rfl, rfl⟩ := hp6
      refine go_assign rfl rfl rfl rfl rfl rfl  ?_
      refine go_assign rfl rfl rfl rfl rfl rfl  ?_
      refine go_assign rfl rfl rfl rfl rfl rfl  ?_
      refine go_assign rfl rfl rfl rfl rfl rfl  ?_
      refine go_end ?_
      refine gon_seq ?_
      refine go_ret ?_
      refine go_result ?_
      refine gov_tmp rfl ?_
      refine gov_tmp rfl ?_
      refine gov_tmp rfl ?_
      refine gov_tmp rfl ?_
      refine gov_nil ?_
      have he : (getS v l (getS v l ⟨0, 0⟩).2).2.err ≠ 0 := by simp at hc4; omega
      have hM : getM v l = (0, 0, [], (getS v l (getS v l ⟨0, 0⟩).2).2.err) := by simp only [getM]; rw [if_neg hgv, if_pos he]
      rw [hM]
      exact ⟨none, 0, rfl, .nil⟩
    · skip
      refine go_skip ?_
      refine gon_seq ?_
      refine go_seq ?_
      refine go_region ?_   -- region 11 ring.go:37
      refine go_move rfl rfl rfl rfl rfl rfl  ?_
      refine go_move rfl rfl rfl rfl rfl rfl  ?_
      refine go_move rfl rfl rfl rfl rfl rfl  ?_
      refine go_move rfl rfl rfl rfl rfl rfl  ?_
      -- call (*spyglass/wire.Reader).Left
      have he : (getS v l (getS v l ⟨0, 0⟩).2).2.err = 0 := by simp at hc4; omega
      have hM : getM v l = ((getS v l ⟨0, 0⟩).1, (getS v l (getS v l ⟨0, 0⟩).2).1, l.drop (getS v l (getS v l ⟨0, 0⟩).2).2.at', 0) := by simp only [getM]; rw [if_neg hgv, if_neg (by omega)]
      refine go_call (fun b => c.n0 ≤ b) (fun _ => False) rfl rfl rfl rfl rfl rfl rfl rfl rfl (rdrLeft_ok ⟨_, (fun b => c.n0 ≤ b), (fun _ => False)⟩ _ hr4 hl20 (fun b h _ => h) d hd) wR (fun _ _ h => h.elim) (fun v6 n6 H6 hle6 hfr6 hp6 => ?_)
      obtain ⟨rfl, rfl, rfl⟩ := hp6
      -- call (*spyglass/wire.Reader).Take
      refine go_call (fun b => c.n0 ≤ b) (fun b => b = br) rfl rfl rfl rfl rfl rfl rfl rfl rfl (rdrTake_ok (q := l.length - (getS v l (getS v l ⟨0, 0⟩).2).2.at') ⟨_, (fun b => c.n0 ≤ b), (fun b => b = br)⟩ _ hr4 hl20 he (by have := hr4.le; omega) (fun b h _ => h) rfl d hd) wR wW (fun v7 n7 H7 hle7 hfr7 hp7 => ?_)
      obtain ⟨a7, code7, rfl, hnew7⟩ := hp7
      try dsimp only at hnew7
      refine go_assign rfl rfl rfl rfl rfl rfl  ?_
      refine go_assign rfl rfl rfl rfl rfl rfl  ?_
      refine go_assign rfl rfl rfl rfl rfl rfl  ?_
      refine go_assign rfl rfl rfl rfl rfl rfl  ?_
      refine go_end ?_
      refine gon_seq ?_
      refine go_ret ?_
      refine go_result ?_
      refine gov_tmp rfl ?_
      refine gov_tmp rfl ?_
      refine gov_tmp rfl ?_
      refine gov_tmp rfl ?_
      refine gov_nil ?_
      rw [hM]
      refine ⟨a7, code7, by simp [tupled], ?_⟩
      rw [List.take_of_length_le (by simp)] at hnew7
      simpa using hnew7.mono (Nat.le_refl _) (by omega) (fun _ _ _ => rfl)
end Go.Proofs.YtmebclfkkloccaaGreatDoor

