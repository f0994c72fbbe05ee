/- The law RingBytes, walked. Written by wip/shade/sk.py from wip/rb/rb5.plan. -/
import Derived.Test.YtmebclfkkloccaaGreatDoorLibC
import Derived.Test.YtmebclfkkloccaaGreatDoorRb4
namespace Go.Proofs.YtmebclfkkloccaaGreatDoor
open Go.Shade
set_option maxRecDepth 100000
set_option linter.unusedVariables false
set_option linter.unusedSimpArgs false
def tabNone : Tab := [(.i32, 768), (.i32, 879), (.i32, 8203), (.i32, 8207), (.i32, 65024), (.i32, 65039)]
def tabWide : Tab := [(.i32, 4352), (.i32, 4447), (.i32, 11904), (.i32, 12350), (.i32, 12353), (.i32, 42191), (.i32, 44032), (.i32, 55203), (.i32, 63744), (.i32, 64255), (.i32, 65072), (.i32, 65135), (.i32, 65280), (.i32, 65376), (.i32, 65504), (.i32, 65510), (.i32, 127744), (.i32, 128591), (.i32, 131072), (.i32, 262141)]
def ovRing : Ov Tryz.prog := { f0 := 8, tabs := [(0, tabNone), (1, tabWide)], outer := fun f => Nat.beq f 4, D := 40 }
theorem bytes_put {v : Int} {base n : Nat} {d : List Nat} (hd : ∀ x ∈ d, x < 256) : ∀ x ∈ (putM v base n d).1, x < 256 := by
  intro x hx
  unfold putM at hx
  split at hx
  · simp only [List.mem_append] at hx
    rcases hx with (h | h) | h
    · exact bytes_numB _ _ _ h
    · exact bytes_numB _ _ _ h
    · exact hd x h
  · split at hx
    · simp only [List.mem_append] at hx
      rcases hx with (h | h) | h
      · exact bytes_varB _ _ h
      · exact bytes_varB _ _ h
      · exact hd x h
    · simp at hx
theorem len_put {v : Int} {base n : Nat} {d : List Nat} (hb : base < 2 ^ 64) (hn : n < 2 ^ 64) : (putM v base n d).1.length ≤ d.length + 20 := by
  have h1 := varB_10 hb
  have h2 := varB_10 hn
  unfold putM
  split
  · simp [numB_length]; omega
  · split
    · simp; omega
    · simp
theorem ringBytes_ok {lf : Nat} (hlf : 2 ^ 17 ≤ lf) {v : Int} {base n : Nat} {a a2 : Option Addr} {m m2 code code2 : Nat} {dl rl : List Nat} (hb : base < 2 ^ 64) (hn : n < 2 ^ 64) (c : Cx) (H : Tr AObj)
    (hs : Sl c.R c.n0 H 1 a m code (u8s dl)) (hs2 : Sl c.R c.n0 H 1 a2 m2 code2 (u8s rl)) (hby : ∀ x ∈ dl, x < 256) (hby2 : ∀ x ∈ rl, x < 256)
    (htab : ∀ b t, (b, t) ∈ ovRing.tabs → b < c.n0 ∧ c.R b ∧ ∃ rw old esz, H.get b = some (.cells (valsT t) rw old esz)) :
    Wp c (evO ovRing lf 2 4 [.int .i64 v, .int .u64 (base : Int), .int .u64 (n : Int), .slice a m code, .slice a2 m2 code2] none) c.n0 H (fun r n' H' => ∃ w, r = .ret w false ∧ w = .bool true) := by
  have hlen : dl.length = m := by simpa [u8s_length] using hs.length
  have hlen2 : rl.length = m2 := by simpa [u8s_length] using hs2.length
  subst hlen hlen2
  refine ov_enter (o := ovRing) rfl rfl Tryz.func4 rfl ?_   -- spyglass/spyglasslaw25.RingBytes
  refine go_seq ?_
  refine go_region ?_   -- region 0 law.go:37
  refine go_assign rfl rfl rfl rfl rfl rfl  ?_
  refine go_end ?_
  refine gon_seq ?_
  refine go_seq ?_
  refine go_seq ?_
  refine go_region ?_   -- region 1 law.go:38
  refine go_move rfl rfl rfl rfl rfl rfl  ?_
  refine go_len rfl rfl rfl rfl rfl  rfl rfl rfl und_S_uint8 ?_
  refine go_bin rfl rfl rfl rfl rfl rfl rfl rfl i_gtr ?_
  refine go_move rfl rfl rfl rfl rfl rfl  ?_
  refine go_moveG rfl rfl rfl rfl rfl rfl rfl rfl rfl rfl (fun _ => rfl)  ?_
  refine go_lenG rfl rfl rfl rfl rfl rfl rfl rfl rfl rfl rfl rfl (fun h => h) rfl und_S_uint8 ?_
  refine go_binG rfl rfl rfl rfl rfl rfl rfl rfl rfl rfl (fun h => h) rfl (fun _ => rfl) rfl i_gtr ?_
  refine go_pick_or rfl rfl rfl rfl rfl rfl rfl rfl (fun h => pick_r rfl h) ?_
  refine go_end ?_
  refine gon_seq ?_
  refine go_cond rfl (fun hc1 => ?_) (fun hc1 => ?_)
  · skip
    refine go_seq ?_
    refine go_region ?_   -- region 2 law.go:39
    -- call spyglass/spyglasslaw25.fixed
    refine go_call c.R (fun _ => False) rfl rfl rfl rfl rfl rfl rfl rfl rfl (ov_fixed (o := ovRing) (lf := lf) (d := 0) (fun b t hb => ⟨(htab b t hb).1, fun _ => .inl (htab b t hb).2.1, (htab b t hb).2.2⟩)) (fun _ _ h => .inl h) (fun _ _ h => h.elim) (fun v1 n1 H1 hle1 hfr1 hp1 => ?_)
    obtain ⟨rfl, rfl, rfl⟩ := hp1
    refine go_assign rfl rfl rfl rfl rfl rfl  ?_
    refine go_end ?_
    refine gon_seq ?_
    refine go_ret ?_
    refine go_result ?_
    refine gov_tmp rfl ?_
    refine gov_nil ?_
    rfl
  · skip
    refine go_skip ?_
    refine gon_seq ?_
    refine go_seq ?_
    refine go_region ?_   -- region 3 law.go:41
    refine go_move rfl rfl rfl rfl rfl rfl  ?_
    -- call spyglass/spyglassref01.Copy
    have hm : dl.length ≤ 16384 ∧ rl.length ≤ 16384 := by simp at hc1; omega
    obtain ⟨hm1, hm2⟩ := hm
    have nR : ∀ b, b < c.n0 → c.n0 ≤ b → c.R b ∨ c.W b := fun b h1 h2 => by omega
    refine go_call c.R (fun _ => False) rfl rfl rfl rfl rfl rfl rfl rfl rfl (ov_inner (o := ovRing) (d := 0) rfl rfl (ref1Copy_ok ⟨c.n0, c.R, (fun _ => False)⟩ _ hs (by omega)) (Nat.le_of_ble_eq_true rfl) rfl) (fun _ _ h => .inl h) (fun _ _ h => h.elim) (fun v6 n6 H6 hle6 hfr6 hp6 => ?_)
    obtain ⟨a6, code6, rfl, hn6⟩ := hp6
    dsimp only at hn6
    have f6 : ∀ b, b < c.n0 → H6.get b = H.get b := fun b hb => hfr6 b hb (fun h => h)
    refine go_move rfl rfl rfl rfl rfl rfl  ?_
    -- call spyglass/spyglassref01.Copy
    refine go_call c.R (fun _ => False) rfl rfl rfl rfl rfl rfl rfl rfl rfl (ov_inner (o := ovRing) (d := 0) rfl rfl (ref1Copy_ok ⟨n6, c.R, (fun _ => False)⟩ _ (hs2.frame hle6 (fun _ h => h) (fun b _ hb => f6 b hb)) (by omega)) (Nat.le_of_ble_eq_true rfl) rfl) (fun _ _ h => .inl h) (fun _ _ h => h.elim) (fun v7 n7 H7 hle7 hfr7 hp7 => ?_)
    obtain ⟨a7, code7, rfl, hn7⟩ := hp7
    dsimp only at hn7
    have f7 : ∀ b, b < c.n0 → H7.get b = H.get b := fun b hb => by rw [hfr7 b (by omega) (fun h => h), f6 b hb]
    have hn6' := hn6.mono (n' := n7) (lo' := c.n0) (H' := H7) hle7 (Nat.le_refl _) (fun b h1 h2 => hfr7 b h2 (fun h => h))
    refine go_assign rfl rfl rfl rfl rfl rfl  ?_
    refine go_assign rfl rfl rfl rfl rfl rfl  ?_
    refine go_end ?_
    refine gon_seq ?_
    refine go_seq ?_
    refine go_region ?_   -- region 4 law.go:42
    refine go_move rfl rfl rfl rfl rfl rfl  ?_
    refine go_move rfl rfl rfl rfl rfl rfl  ?_
    refine go_move rfl rfl rfl rfl rfl rfl  ?_
    refine go_move rfl rfl rfl rfl rfl rfl  ?_
    -- call spyglass/ring.Put
    refine go_call (fun b => c.n0 ≤ b) (fun _ => False) rfl rfl rfl rfl rfl rfl rfl rfl rfl (ov_inner (o := ovRing) (d := 0) rfl rfl (ringPut_ok hlf hb hn ⟨n7, (fun b => c.n0 ≤ b), (fun _ => False)⟩ _ (hn6'.sl (fun b h1 _ => h1)) (by omega)) (Nat.le_of_ble_eq_true rfl) rfl) nR (fun _ _ h => h.elim) (fun v8 n8 H8 hle8 hfr8 hp8 => ?_)
    obtain ⟨a8, code8, rfl, hn8⟩ := hp8
    dsimp only at hn8
    have f8 : ∀ b, b < c.n0 → H8.get b = H.get b := fun b hb => by rw [hfr8 b (by omega) (fun h => h), f7 b hb]
    refine go_move rfl rfl rfl rfl rfl rfl  ?_
    refine go_extract rfl rfl rfl rfl rfl rfl rfl ?_
    refine go_extract rfl rfl rfl rfl rfl rfl rfl ?_
    refine go_assign rfl rfl rfl rfl rfl rfl  ?_
    refine go_assign rfl rfl rfl rfl rfl rfl  ?_
    refine go_end ?_
    refine gon_seq ?_
    refine go_seq ?_
    refine go_region ?_   -- region 5 law.go:43
    refine go_move rfl rfl rfl rfl rfl rfl  ?_
    refine go_move rfl rfl rfl rfl rfl rfl  ?_
    refine go_move rfl rfl rfl rfl rfl rfl  ?_
    refine go_move rfl rfl rfl rfl rfl rfl  ?_
    -- call spyglass/spyglassref25.Put
    refine go_call c.R (fun _ => False) rfl rfl rfl rfl rfl rfl rfl rfl rfl (ov_inner (o := ovRing) (d := 0) rfl rfl (ref25Put_ok hlf hb hn ⟨n8, c.R, (fun _ => False)⟩ _ (hs.frame (n' := n8) (H' := H8) (by omega) (fun _ h => h) (fun b _ hb => f8 b hb)) (by omega)) (Nat.le_of_ble_eq_true rfl) rfl) (fun _ _ h => .inl h) (fun _ _ h => h.elim) (fun v9 n9 H9 hle9 hfr9 hp9 => ?_)
    obtain ⟨a9, code9, rfl, hn9⟩ := hp9
    dsimp only at hn9
    have f9 : ∀ b, b < c.n0 → H9.get b = H.get b := fun b hb => by rw [hfr9 b (by omega) (fun h => h), f8 b hb]
    have hn7' := hn7.mono (n' := n9) (lo' := c.n0) (H' := H9) (by omega) (by omega) (fun b h1 h2 => by rw [hfr9 b (by omega) (fun h => h), hfr8 b (by omega) (fun h => h)])
    refine go_move rfl rfl rfl rfl rfl rfl  ?_
    refine go_extract rfl rfl rfl rfl rfl rfl rfl ?_
    refine go_extract rfl rfl rfl rfl rfl rfl rfl ?_
    refine go_assign rfl rfl rfl rfl rfl rfl  ?_
    refine go_assign rfl rfl rfl rfl rfl rfl  ?_
    refine go_end ?_
    refine gon_seq ?_
    refine go_seq ?_
    refine go_region ?_   -- region 6 law.go:44
    refine go_move rfl rfl rfl rfl rfl rfl  ?_
    refine go_move rfl rfl rfl rfl rfl rfl  ?_
    -- call spyglass/ring.Get
    refine go_call (fun b => c.n0 ≤ b) (fun _ => False) rfl rfl rfl rfl rfl rfl rfl rfl rfl (ov_inner (o := ovRing) (d := 0) rfl rfl (ringGet_ok hlf ⟨n9, (fun b => c.n0 ≤ b), (fun _ => False)⟩ _ (hn7'.sl (fun b h1 _ => h1)) (by omega) hby2) (Nat.le_of_ble_eq_true rfl) rfl) nR (fun _ _ h => h.elim) (fun v10 n10 H10 hle10 hfr10 hp10 => ?_)
    obtain ⟨a10, code10, rfl, hn10⟩ := hp10
    dsimp only at hn10
    have f10 : ∀ b, b < c.n0 → H10.get b = H.get b := fun b hb => by rw [hfr10 b (by omega) (fun h => h), f9 b hb]
    refine go_move rfl rfl rfl rfl rfl rfl  ?_
    refine go_extract rfl rfl rfl rfl rfl rfl rfl ?_
    refine go_extract rfl rfl rfl rfl rfl rfl rfl ?_
    refine go_extract rfl rfl rfl rfl rfl rfl rfl ?_
    refine go_extract rfl rfl rfl rfl rfl rfl rfl ?_
    refine go_assign rfl rfl rfl rfl rfl rfl  ?_
    refine go_assign rfl rfl rfl rfl rfl rfl  ?_
    refine go_assign rfl rfl rfl rfl rfl rfl  ?_
    refine go_assign rfl rfl rfl rfl rfl rfl  ?_
    refine go_end ?_
    refine gon_seq ?_
    refine go_seq ?_
    refine go_region ?_   -- region 7 law.go:45
    refine go_move rfl rfl rfl rfl rfl rfl  ?_
    refine go_move rfl rfl rfl rfl rfl rfl  ?_
    -- call spyglass/spyglassref25.Get
    refine go_call c.R (fun _ => False) rfl rfl rfl rfl rfl rfl rfl rfl rfl (ov_inner (o := ovRing) (d := 0) rfl rfl (ref25Get_ok hlf ⟨n10, c.R, (fun _ => False)⟩ _ (hs2.frame (n' := n10) (H' := H10) (by omega) (fun _ h => h) (fun b _ hb => f10 b hb)) (by omega) hby2) (Nat.le_of_ble_eq_true rfl) rfl) (fun _ _ h => .inl h) (fun _ _ h => h.elim) (fun v11 n11 H11 hle11 hfr11 hp11 => ?_)
    obtain ⟨a11, code11, rfl, hn11⟩ := hp11
    dsimp only at hn11
    have f11 : ∀ b, b < c.n0 → H11.get b = H.get b := fun b hb => by rw [hfr11 b (by omega) (fun h => h), f10 b hb]
    refine go_move rfl rfl rfl rfl rfl rfl  ?_
    refine go_extract rfl rfl rfl rfl rfl rfl rfl ?_
    refine go_extract rfl rfl rfl rfl rfl rfl rfl ?_
    refine go_extract rfl rfl rfl rfl rfl rfl rfl ?_
    refine go_extract rfl rfl rfl rfl rfl rfl rfl ?_
    refine go_assign rfl rfl rfl rfl rfl rfl  ?_
    refine go_assign rfl rfl rfl rfl rfl rfl  ?_
    refine go_assign rfl rfl rfl rfl rfl rfl  ?_
    refine go_assign rfl rfl rfl rfl rfl rfl  ?_
    refine go_end ?_
    refine gon_seq ?_
    refine go_seq ?_
    refine go_seq ?_
    refine go_region ?_   -- region 8 law.go:46
    -- call spyglass/spyglasslaw25.fixed
    refine go_call c.R (fun _ => False) rfl rfl rfl rfl rfl rfl rfl rfl rfl (ov_fixed (o := ovRing) (lf := lf) (d := 0) (fun b t hb => ⟨by have := (htab b t hb).1; omega, fun _ => .inl (htab b t hb).2.1, by rw [f11 b (htab b t hb).1]; exact (htab b t hb).2.2⟩)) (fun _ _ h => .inl h) (fun _ _ h => h.elim) (fun v12 n12 H12 hle12 hfr12 hp12 => ?_)
    obtain ⟨rfl, rfl, rfl⟩ := hp12
    have k6 := hn6.mono (n' := n12) (lo' := c.n0) (H' := H12) (by omega) (Nat.le_refl _) (fun b h1 h2 => by rw [hfr11 b (by omega) (fun h => h), hfr10 b (by omega) (fun h => h), hfr9 b (by omega) (fun h => h), hfr8 b (by omega) (fun h => h), hfr7 b (by omega) (fun h => h)])
    have k8 := hn8.mono (n' := n12) (lo' := c.n0) (H' := H12) (by omega) (by omega) (fun b h1 h2 => by rw [hfr11 b (by omega) (fun h => h), hfr10 b (by omega) (fun h => h), hfr9 b (by omega) (fun h => h)])
    have k9 := hn9.mono (n' := n12) (lo' := c.n0) (H' := H12) (by omega) (by omega) (fun b h1 h2 => by rw [hfr11 b (by omega) (fun h => h), hfr10 b (by omega) (fun h => h)])
    have k10 := hn10.mono (n' := n12) (lo' := c.n0) (H' := H12) (by omega) (by omega) (fun b h1 h2 => by rw [hfr11 b (by omega) (fun h => h)])
    have k11 := hn11.mono (n' := n12) (lo' := c.n0) (H' := H12) (by omega) (by omega) (fun b h1 h2 => rfl)
    have ks := hs.frame (n' := n12) (H' := H12) (by omega) (fun _ h => h) (fun b _ hb => f11 b hb)
    have lp := len_put (v := v) (d := dl) hb hn
    have lg : (getM v rl).2.2.1.length ≤ rl.length := by
      unfold getM; split
      · simp
      · dsimp only; split
        · simp
        · simp
    have same : ∀ (nn : Nat) (HH : Tr AObj) {x1 x2 : Option Addr} {y1 y2 z1 z2 : Nat} {q : List Nat} {R : Nat → Prop}, Sl R nn HH 1 x1 y1 z1 (u8s q) → Sl R nn HH 1 x2 y2 z2 (u8s q) → y1 ≤ 2 ^ 16 →
        Wp ⟨nn, R, fun _ => False⟩ (evO ovRing lf 1 28 [.slice x1 y1 z1, .slice x2 y2 z2] none) nn HH fun o n' H' => ∃ v', o = .ret v' false ∧ v' = .bool true ∧ n' = nn ∧ H' = HH := by
      intro nn HH x1 x2 y1 y2 z1 z2 q R q1 q2 q3
      refine (ov_inner (o := ovRing) (d := 0) rfl rfl (ref1Same_ok hlf ⟨nn, R, (fun _ => False)⟩ _ q1 q2 q3) (Nat.le_of_ble_eq_true rfl) rfl).mono fun o n' H' ho => ?_
      obtain ⟨v', e1, e2, e3, e4⟩ := ho
      exact ⟨v', e1, by rw [e2]; simp, e3, e4⟩
    refine go_not rfl rfl rfl rfl rfl rfl  ?_
    refine go_move rfl rfl rfl rfl rfl rfl  ?_
    refine go_moveG rfl rfl rfl rfl rfl rfl rfl rfl rfl rfl (fun _ => rfl)  ?_
    refine go_moveG rfl rfl rfl rfl rfl rfl rfl rfl rfl rfl (fun _ => rfl)  ?_
    refine go_binG rfl rfl rfl rfl rfl rfl rfl rfl rfl rfl (fun h => h) rfl (fun h => h) rfl i_neq ?_
    refine go_pick_or rfl rfl rfl rfl rfl rfl rfl rfl (fun h => pick_r rfl h) ?_
    refine go_move rfl rfl rfl rfl rfl rfl  ?_
    refine go_moveG rfl rfl rfl rfl rfl rfl rfl rfl rfl rfl (fun _ => rfl)  ?_
    refine go_moveG rfl rfl rfl rfl rfl rfl rfl rfl rfl rfl (fun _ => rfl)  ?_
    -- call spyglass/spyglassref01.Same
    refine go_callP (v := .bool true) (fun b => c.n0 ≤ b) rfl rfl rfl rfl rfl rfl rfl rfl rfl rfl rfl rfl (fun hr p hp => by simp at hp; rcases hp with rfl | rfl <;> first | rfl | exact hr) rfl (fun _ => same _ _ (k8.sl (fun b h1 _ => h1)) (k9.sl (fun b h1 _ => h1)) (by omega)) nR ?_
    refine go_notG rfl rfl rfl rfl rfl rfl rfl rfl rfl rfl (fun h => h)  ?_
    refine go_pick_or rfl rfl rfl rfl rfl rfl rfl rfl (fun h => pick_r rfl h) ?_
    refine go_move rfl rfl rfl rfl rfl rfl  ?_
    refine go_moveG rfl rfl rfl rfl rfl rfl rfl rfl rfl rfl (fun _ => rfl)  ?_
    refine go_moveG rfl rfl rfl rfl rfl rfl rfl rfl rfl rfl (fun _ => rfl)  ?_
    refine go_binG rfl rfl rfl rfl rfl rfl rfl rfl rfl rfl (fun h => h) rfl (fun h => h) rfl i_neq ?_
    refine go_pick_or rfl rfl rfl rfl rfl rfl rfl rfl (fun h => pick_r rfl h) ?_
    refine go_move rfl rfl rfl rfl rfl rfl  ?_
    refine go_moveG rfl rfl rfl rfl rfl rfl rfl rfl rfl rfl (fun _ => rfl)  ?_
    refine go_moveG rfl rfl rfl rfl rfl rfl rfl rfl rfl rfl (fun _ => rfl)  ?_
    refine go_binG rfl rfl rfl rfl rfl rfl rfl rfl rfl rfl (fun h => h) rfl (fun h => h) rfl i_neq ?_
    refine go_pick_or rfl rfl rfl rfl rfl rfl rfl rfl (fun h => pick_r rfl h) ?_
    refine go_move rfl rfl rfl rfl rfl rfl  ?_
    refine go_moveG rfl rfl rfl rfl rfl rfl rfl rfl rfl rfl (fun _ => rfl)  ?_
    refine go_moveG rfl rfl rfl rfl rfl rfl rfl rfl rfl rfl (fun _ => rfl)  ?_
    refine go_binG rfl rfl rfl rfl rfl rfl rfl rfl rfl rfl (fun h => h) rfl (fun h => h) rfl i_neq ?_
    refine go_pick_or rfl rfl rfl rfl rfl rfl rfl rfl (fun h => pick_r rfl h) ?_
    refine go_move rfl rfl rfl rfl rfl rfl  ?_
    refine go_moveG rfl rfl rfl rfl rfl rfl rfl rfl rfl rfl (fun _ => rfl)  ?_
    refine go_moveG rfl rfl rfl rfl rfl rfl rfl rfl rfl rfl (fun _ => rfl)  ?_
    -- call spyglass/spyglassref01.Same
    refine go_callP (v := .bool true) (fun b => c.n0 ≤ b) rfl rfl rfl rfl rfl rfl rfl rfl rfl rfl rfl rfl (fun hr p hp => by simp at hp; rcases hp with rfl | rfl <;> first | rfl | exact hr) rfl (fun _ => same _ _ (k10.sl (fun b h1 _ => h1)) (k11.sl (fun b h1 _ => h1)) (by omega)) nR ?_
    refine go_notG rfl rfl rfl rfl rfl rfl rfl rfl rfl rfl (fun h => h)  ?_
    refine go_pick_or rfl rfl rfl rfl rfl rfl rfl rfl (fun h => pick_r rfl h) ?_
    refine go_move rfl rfl rfl rfl rfl rfl  ?_
    refine go_moveG rfl rfl rfl rfl rfl rfl rfl rfl rfl rfl (fun _ => rfl)  ?_
    refine go_moveG rfl rfl rfl rfl rfl rfl rfl rfl rfl rfl (fun _ => rfl)  ?_
    -- call spyglass/spyglassref01.Same
    refine go_callP (v := .bool true) (fun b => c.n0 ≤ b ∨ c.R b) rfl rfl rfl rfl rfl rfl rfl rfl rfl rfl rfl rfl (fun hr p hp => by simp at hp; rcases hp with rfl | rfl <;> first | rfl | exact hr) rfl (fun _ => same _ _ (k6.sl (fun b h1 _ => .inl h1)) (ks.frame (Nat.le_refl _) (fun _ h => .inr h) (fun _ _ _ => rfl)) (by omega)) (fun b h1 h2 => by rcases h2 with h2 | h2; exact nR b h1 h2; exact .inl h2) ?_
    refine go_notG rfl rfl rfl rfl rfl rfl rfl rfl rfl rfl (fun h => h)  ?_
    refine go_pick_or rfl rfl rfl rfl rfl rfl rfl rfl (fun h => pick_r rfl h) ?_
    refine go_end ?_
    refine gon_seq ?_
    refine go_cond rfl (fun hc2 => ?_) (fun hc2 => ?_)
    · simp at hc2
    · skip
      refine go_skip ?_
      refine gon_seq ?_
      refine go_seq ?_
      refine go_seq ?_
      refine go_region ?_   -- region 10 law.go:49
      refine go_move rfl rfl rfl rfl rfl rfl  ?_
      refine go_len rfl rfl rfl rfl rfl  rfl rfl rfl und_S_uint8 ?_
      refine go_move rfl rfl rfl rfl rfl rfl  ?_
      refine go_end ?_
      refine gon_seq ?_
      refine go_block ?_
      have kz := hn10.mono (n' := n12) (lo' := n9) (H' := H12) (by omega) (Nat.le_refl _) (fun b h1 h2 => by rw [hfr11 b (by omega) (fun h => h)])
      have hbz : ∀ x ∈ (getM v rl).2.2.1, x < 256 := by
        intro x hx
        unfold getM at hx; split at hx
        · simp at hx
        · dsimp only at hx; split at hx
          · simp at hx
          · exact hby2 x (List.mem_of_mem_drop hx)
      refine go_loop (X := Nat × List Nat) (fun x => [(0, .int .i64 v), (1, .int .u64 (base : Int)), (2, .int .u64 (n : Int)), (3, .slice a dl.length code), (4, .slice a2 rl.length code2), (12, .slice a7 rl.length code7), (13, .slice a8 (putM v base n dl).1.length code8), (14, .int .i64 ((putM v base n dl).2 : Int)), (19, .slice a10 (getM v rl).2.2.1.length code10), (112, .int .i64 ((getM v rl).2.2.1.length : Int)), (113, .int .i64 (x.1 : Int))])
        (fun x n' H' => n' = n12 ∧ New n9 n10 H' 1 a10 (getM v rl).2.2.1.length code10 (u8s x.2) ∧ (∀ b, b < n12 → ¬ (n9 ≤ b ∧ b < n10) → H'.get b = H12.get b) ∧ x.1 ≤ (getM v rl).2.2.1.length ∧ (∀ y ∈ x.2, y < 256)) (fun x => (getM v rl).2.2.1.length - x.1) (0, (getM v rl).2.2.1) (by repeat' (first | exact trivial | rfl | (exact congrArg some (congrArg (Value.int _) (by omega))) | apply And.intro)) ?_ ?_ ?_
      · exact ⟨rfl, hn10.mono (Nat.le_refl _) (Nat.le_refl _) (fun b h1 h2 => by rw [hfr11 b (by omega) (fun h => h)]), fun _ _ _ => rfl, Nat.zero_le _, hbz⟩
      · show (getM v rl).2.2.1.length - 0 < lf
        omega
      · rintro ⟨i, zs⟩ n' H' hle hfr ⟨rfl, hz, hoth, hi, hzb⟩
        dsimp only at *
        have hzl : zs.length = (getM v rl).2.2.1.length := by simpa [u8s_length] using hz.length
        refine go_seq ?_
        refine go_region ?_   -- region 11 law.go:49
        refine go_bin rfl rfl rfl rfl rfl rfl rfl rfl i_lss ?_
        refine go_end ?_
        refine gon_seq ?_
        refine go_seq ?_
        refine go_cond rfl (fun hc4 => ?_) (fun hc4 => ?_)
        · skip
          refine go_skip ?_
          refine gon_seq ?_
          refine go_seq ?_
          refine go_block ?_
          refine go_seq ?_
          refine go_region ?_   -- region 12 law.go:49
          refine go_move rfl rfl rfl rfl rfl rfl  ?_
          refine go_assign rfl rfl rfl rfl rfl rfl  ?_
          refine go_end ?_
          refine gon_seq ?_
          refine go_region ?_   -- region 13 law.go:50
          refine go_move rfl rfl rfl rfl rfl rfl  ?_
          refine go_move rfl rfl rfl rfl rfl rfl  ?_
          have him : i < (getM v rl).2.2.1.length := by simp at hc4; omega
          have hil : i < zs.length := by omega
          obtain ⟨b, i0, cs, old, esz, cs', ha, w1, w2, w3, w4, w5, w6, w7⟩ := hz.write (j := i) (vs := [.int .u8 (((zs[i]'hil + 1) % 256 : Nat) : Int)]) (by simp; omega) (by omega)
          refine go_indexAddr (j := i) rfl rfl rfl rfl rfl rfl rfl eltK_S_uint8 ha rfl him ?_
          refine go_load rfl rfl rfl rfl rfl rfl agg_uint8 (Nat.lt_of_lt_of_le w2 (by omega)) w3 (v := .int .u8 ((zs[i]'hil : Nat) : Int)) (by rw [Nat.mul_one, w5 i (by omega), u8s_get, List.getElem?_eq_getElem hil]; rfl) (fun h => absurd h (by show ¬ b < c.n0; omega)) ?_
          refine go_bin rfl rfl rfl rfl rfl rfl rfl rfl (u_addw (b := 1) rfl rfl rfl) ?_
          refine go_indexAddr (j := i) rfl rfl rfl rfl rfl rfl rfl eltK_S_uint8 ha rfl him ?_
          refine go_storeK (cs' := cs') rfl rfl rfl rfl rfl siz_uint8 rfl (Nat.lt_of_lt_of_le w2 (by omega)) w3 (fun o ho => ⟨by have := (w4 o ho).2.1; omega, (w4 o ho).2.2.1, (w4 o ho).2.2.2, fun h => absurd h (by have := (w4 o ho).1; show ¬ o < c.n0; omega)⟩) (by rw [Nat.mul_one]; exact w6) rfl (fun h => absurd h (by show ¬ b < c.n0; omega)) ?_
          refine go_end ?_
          refine gon_block ?_
          refine gon_seq ?_
          refine go_region ?_   -- region 14 law.go:49
          refine go_bin rfl rfl rfl rfl rfl rfl rfl rfl (i_add' (wrap_i64 (by omega) (by omega))) ?_
          refine go_move rfl rfl rfl rfl rfl rfl  ?_
          refine go_end ?_
          refine gon_loop ⟨(i + 1, zs.take i ++ [(zs[i]'hil + 1) % 256] ++ zs.drop (i + 1)), (by repeat' (first | exact trivial | rfl | (exact congrArg some (congrArg (Value.int _) (by omega))) | apply And.intro)), by show _ - (i + 1) < _ - i; omega, rfl, ?_, fun b' hb1 hb2 => ?_, him, fun y hy => ?_⟩
          · rw [show u8s (zs.take i ++ [(zs[i]'hil + 1) % 256] ++ zs.drop (i + 1)) = (u8s zs).take i ++ [.int .u8 (((zs[i]'hil + 1) % 256 : Nat) : Int)] ++ (u8s zs).drop (i + 1) by simp [u8s, List.map_take, List.map_drop]]
            exact w7
          · rw [Tr.get_set_ne _ _ (fun e => by subst e; exact hb2 ⟨w1, w2⟩), killed_get _ _ _ (fun h => hb2 ⟨(w4 _ h).1, (w4 _ h).2.1⟩)]
            exact hoth b' hb1 hb2
          · simp only [List.mem_append, List.mem_singleton] at hy
            rcases hy with (hy | rfl) | hy
            · exact hzb y (List.mem_of_mem_take hy)
            · omega
            · exact hzb y (List.mem_of_mem_drop hy)
        · skip
          refine go_exit ?_
          refine gox_seq ?_
          refine gox_loop ?_
          refine gox_out ?_
          refine gon_seq ?_
          refine go_seq ?_
          refine go_seq ?_
          refine go_region ?_   -- region 15 law.go:52
          refine go_move rfl rfl rfl rfl rfl rfl  ?_
          refine go_bin rfl rfl rfl rfl rfl rfl rfl rfl i_neq ?_
          refine go_end ?_
          refine gon_seq ?_
          have hold : ∀ b, b < c.n0 → H'.get b = H.get b := fun b hb => by rw [hoth b (by omega) (by omega), f11 b hb]
          have j7 := hn7.mono (n' := n') (lo' := c.n0) (H' := H') (by omega) (by omega) (fun b h1 h2 => by rw [hoth b (by omega) (by omega), hfr11 b (by omega) (fun h => h), hfr10 b (by omega) (fun h => h), hfr9 b (by omega) (fun h => h), hfr8 b (by omega) (fun h => h)])
          have j8 := hn8.mono (n' := n') (lo' := c.n0) (H' := H') (by omega) (by omega) (fun b h1 h2 => by rw [hoth b (by omega) (by omega), hfr11 b (by omega) (fun h => h), hfr10 b (by omega) (fun h => h), hfr9 b (by omega) (fun h => h)])
          have js2 := hs2.frame (n' := n') (H' := H') (by omega) (fun _ h => h) (fun b _ hb => hold b hb)
          have nRR : ∀ b, b < c.n0 → (c.n0 ≤ b ∨ c.R b) → c.R b ∨ c.W b := fun b h1 h2 => by rcases h2 with h2 | h2; exact nR b h1 h2; exact .inl h2
          refine go_cond rfl (fun hc5 => ?_) (fun hc5 => ?_)
          · skip
            refine go_seq ?_
            refine go_region ?_   -- region 16 law.go:53
            refine go_move rfl rfl rfl rfl rfl rfl  ?_
            refine go_move rfl rfl rfl rfl rfl rfl  ?_
            -- call spyglass/spyglassref01.Same
            refine go_call (fun b => c.n0 ≤ b ∨ c.R b) (fun _ => False) rfl rfl rfl rfl rfl rfl rfl rfl rfl (same _ _ (j7.sl (fun b h1 _ => .inl h1)) (js2.frame (Nat.le_refl _) (fun _ h => .inr h) (fun _ _ _ => rfl)) (by omega)) nRR (fun _ _ h => h.elim) (fun v35 n35 H35 hle35 hfr35 hp35 => ?_)
            obtain ⟨rfl, rfl, rfl⟩ := hp35
            refine go_assign rfl rfl rfl rfl rfl rfl  ?_
            refine go_end ?_
            refine gon_seq ?_
            refine go_ret ?_
            refine go_result ?_
            refine gov_tmp rfl ?_
            refine gov_nil ?_
            rfl
          · skip
            refine go_skip ?_
            refine gon_seq ?_
            refine go_seq ?_
            refine go_region ?_   -- region 17 law.go:55
            refine go_move rfl rfl rfl rfl rfl rfl  ?_
            refine go_move rfl rfl rfl rfl rfl rfl  ?_
            -- call spyglass/ring.Get
            have he0 : (putM v base n dl).2 = 0 := by simp at hc5; omega
            have hgp := get_put hb hn he0
            refine go_call (fun b => c.n0 ≤ b) (fun _ => False) rfl rfl rfl rfl rfl rfl rfl rfl rfl (ov_inner (o := ovRing) (d := 0) rfl rfl (ringGet_ok hlf ⟨n', (fun b => c.n0 ≤ b), (fun _ => False)⟩ _ (j8.sl (fun b h1 _ => h1)) (by omega) (bytes_put hby)) (Nat.le_of_ble_eq_true rfl) rfl) nR (fun _ _ h => h.elim) (fun v38 n38 H38 hle38 hfr38 hp38 => ?_)
            rw [hgp] at hp38
            obtain ⟨a38, code38, rfl, hn38⟩ := hp38
            dsimp only at hn38
            have k7 := j7.mono (n' := n38) (lo' := c.n0) (H' := H38) (by omega) (Nat.le_refl _) (fun b h1 h2 => hfr38 b h2 (fun h => h))
            have ks2 := js2.frame (n' := n38) (H' := H38) (by omega) (fun _ h => h) (fun b _ hb => hfr38 b (by omega) (fun h => h))
            have ks1 := hs.frame (n' := n38) (H' := H38) (by omega) (fun _ h => h) (fun b _ hb => by rw [hfr38 b (by omega) (fun h => h), hold b hb])
            refine go_move rfl rfl rfl rfl rfl rfl  ?_
            refine go_extract rfl rfl rfl rfl rfl rfl rfl ?_
            refine go_extract rfl rfl rfl rfl rfl rfl rfl ?_
            refine go_extract rfl rfl rfl rfl rfl rfl rfl ?_
            refine go_extract rfl rfl rfl rfl rfl rfl rfl ?_
            refine go_assign rfl rfl rfl rfl rfl rfl  ?_
            refine go_assign rfl rfl rfl rfl rfl rfl  ?_
            refine go_assign rfl rfl rfl rfl rfl rfl  ?_
            refine go_assign rfl rfl rfl rfl rfl rfl  ?_
            refine go_end ?_
            refine gon_seq ?_
            refine go_seq ?_
            refine go_region ?_   -- region 18 law.go:56
            refine go_move rfl rfl rfl rfl rfl rfl  ?_
            refine go_move rfl rfl rfl rfl rfl rfl  ?_
            -- call spyglass/spyglassref01.Same
            refine go_call (fun b => c.n0 ≤ b ∨ c.R b) (fun _ => False) rfl rfl rfl rfl rfl rfl rfl rfl rfl (same _ _ (k7.sl (fun b h1 _ => .inl h1)) (ks2.frame (Nat.le_refl _) (fun _ h => .inr h) (fun _ _ _ => rfl)) (by omega)) nRR (fun _ _ h => h.elim) (fun v39 n39 H39 hle39 hfr39 hp39 => ?_)
            obtain ⟨rfl, rfl, rfl⟩ := hp39
            refine go_move rfl rfl rfl rfl rfl rfl  ?_
            refine go_moveG rfl rfl rfl rfl rfl rfl rfl rfl rfl rfl (fun _ => rfl)  ?_
            refine go_binG rfl rfl rfl rfl rfl rfl rfl rfl rfl rfl (fun h => h) rfl (fun _ => rfl) rfl i_eql ?_
            refine go_pick_and rfl rfl rfl rfl rfl rfl rfl rfl (fun h => pick_r rfl h) ?_
            refine go_move rfl rfl rfl rfl rfl rfl  ?_
            refine go_moveG rfl rfl rfl rfl rfl rfl rfl rfl rfl rfl (fun _ => rfl)  ?_
            refine go_moveG rfl rfl rfl rfl rfl rfl rfl rfl rfl rfl (fun _ => rfl)  ?_
            refine go_binG rfl rfl rfl rfl rfl rfl rfl rfl rfl rfl (fun h => h) rfl (fun h => h) rfl i_eql ?_
            refine go_pick_and rfl rfl rfl rfl rfl rfl rfl rfl (fun h => pick_r rfl h) ?_
            refine go_move rfl rfl rfl rfl rfl rfl  ?_
            refine go_moveG rfl rfl rfl rfl rfl rfl rfl rfl rfl rfl (fun _ => rfl)  ?_
            refine go_moveG rfl rfl rfl rfl rfl rfl rfl rfl rfl rfl (fun _ => rfl)  ?_
            refine go_binG rfl rfl rfl rfl rfl rfl rfl rfl rfl rfl (fun h => h) rfl (fun h => h) rfl i_eql ?_
            refine go_pick_and rfl rfl rfl rfl rfl rfl rfl rfl (fun h => pick_r rfl h) ?_
            refine go_move rfl rfl rfl rfl rfl rfl  ?_
            refine go_moveG rfl rfl rfl rfl rfl rfl rfl rfl rfl rfl (fun _ => rfl)  ?_
            refine go_moveG rfl rfl rfl rfl rfl rfl rfl rfl rfl rfl (fun _ => rfl)  ?_
            -- call spyglass/spyglassref01.Same
            refine go_callP (v := .bool true) (fun b => c.n0 ≤ b ∨ c.R b) rfl rfl rfl rfl rfl rfl rfl rfl rfl rfl rfl rfl (fun hr p hp => by simp at hp; rcases hp with rfl | rfl <;> first | rfl | exact hr) rfl (fun _ => same _ _ (hn38.sl (fun b h1 _ => .inl (by omega))) (ks1.frame (Nat.le_refl _) (fun _ h => .inr h) (fun _ _ _ => rfl)) (show dl.length ≤ 2 ^ 16 by omega)) nRR ?_
            refine go_pick_and rfl rfl rfl rfl rfl rfl rfl rfl (fun h => pick_r rfl h) ?_
            refine go_assign rfl rfl rfl rfl rfl rfl  ?_
            refine go_end ?_
            refine gon_seq ?_
            refine go_ret ?_
            refine go_result ?_
            refine gov_tmp rfl ?_
            refine gov_nil ?_
            simp [tupled]
end Go.Proofs.YtmebclfkkloccaaGreatDoor

