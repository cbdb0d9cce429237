/- The law LearnFollows: its walk. -/
import Derived.Test.YteledfiechbhgaaGreatDoorQLawTools
import Derived.Test.YteledfiechbhgaaGreatDoorQTwFoll
import Derived.Deep.DeepCutAuto
import Derived.Deep.CutBlock
import Derived.Deep.RegionHeld3
namespace Go.Proofs.YteledfiechbhgaaGreatDoor
open Go Go.RowKit

def OwnNums (v : Value) (l : List Nat) : SProp := OwnRow 28 1 v l.length (nums64 l)
theorem nums64_append (l m : List Nat) : nums64 (l ++ m) = nums64 l ++ nums64 m := by unfold nums64; rw [List.map_append]
theorem Holds.numsAt {g w : World} {v : Value} {l : List Nat} {F : List SProp} (h : Holds g w (OwnNums v l :: F)) : RowAt w v (nums64 l) := by
  unfold OwnNums at h
  have h2 := h.rowAt
  exact h2
theorem Holds.oneNum {g w : World} {F : List SProp} {q : Nat} {k : Nat} (h : Holds g w (pts q (.cells #[.int .u64 (k : Nat)] 28) :: F)) : Holds g w (OwnNums (.slice (some ⟨q, 0, none⟩) 1 1) [k] :: F) := Holds.one h
theorem Holds.appendNums {g w : World} {v1 v2 : Value} {l1 l2 : List Nat} {F : List SProp} (h : Holds g w (OwnNums v1 l1 :: OwnNums v2 l2 :: F)) (hl : l1.length + l2.length ≤ 2000000) (ty : TypeId) :
    ∃ v' w', (Builtin.append_ #[22, 22] ty #[v1, v2]).run Tryz.prog w = .ok v' w' ∧ Holds g w' (OwnNums v' (l1 ++ l2) :: F) := by
  unfold OwnNums at h ⊢
  obtain ⟨ii, hi, hz0, hz1, hz2⟩ := info_parts infoU64
  rcases (Holds.p1 h).rowShape with ⟨rfl, h0, _⟩ | ⟨q, cap, rfl⟩
  · have hl2 : l2 = [] := List.length_eq_zero_iff.1 h0
    subst hl2
    rw [List.append_nil]
    exact ⟨v1, w, run_append_owned_none w g.heap.size 22 ty 28 ii 1 Tryz.underlying22 hi _ _ _ h.ownsRow, (Holds.p1 h).drop⟩
  · obtain ⟨v', w', hr, h2, h3, h4, h5⟩ := run_append_own_at (P := Tryz.prog) w g.heap.size 22 ty 28 ii (.int .u64 0) 1 8 Tryz.underlying22 hi hz0 hz1 hz2 rfl (by decide) v1 l1.length (nums64 l1) h.ownsRow ⟨q, 0, none⟩ l2.length cap (nums64 l2) (by rw [nums64_length, Nat.mul_one]) (fun j u hu => by
      have hc := (Holds.p1 h).rowCell hu
      have hadd : (⟨q, 0, none⟩ : Addr).add j = ⟨q, j, none⟩ := by unfold Addr.add; split <;> simp_all
      rw [hadd]
      exact hc) (nums64_one _) (by simp only [maxLen]; omega) (by omega) h.size
    refine ⟨v', w', hr, ?_⟩
    have H := h.grown (v' := v') (n' := l1.length + l2.length) (xs' := nums64 l1 ++ nums64 l2) h2 h3 (by rcases h5 with h5 | h5 <;> first | exact .inl h5 | exact .inr ⟨_, h5, Nat.le_refl _⟩)
    rw [← nums64_append, ← List.length_append] at H
    exact H.p1.drop
theorem wpList_append_nums {g w : World} {v1 v2 : Value} {l1 l2 : List Nat} {F : List SProp} {ops : Array Oper} {rest : List Oper} {o : Oper} {a : Act} {Q : Exit → Act → World → Prop} (hg : o.guard = none) (s x : Operand)
    (hop : o.op = .call { callee := .builtin .append, args := #[s, x], argTypes := #[22, 22] })
    (h : Holds g w (OwnNums v1 l1 :: OwnNums v2 l2 :: F)) (hl : l1.length + l2.length ≤ 2000000) (hs : a.eval s = v1) (hx : a.eval x = v2)
    (hK : ∀ v' w', Holds g w' (OwnNums v' (l1 ++ l2) :: F) → wpList Tryz.prog ops Q rest (a.put o.dst v') w') : wpList Tryz.prog ops Q (o :: rest) a w := by
  refine wpList_plain hg fun K hK2 => ?_
  obtain ⟨v', w', hr, h2⟩ := h.appendNums hl o.type
  unfold Oper.wp execOp
  simp only [hop, resolve, invoke, builtin, Sem.run_bind, Sem.run_pure, Result.andThen_ok, List.map_toArray, List.map_cons, List.map_nil, hs, hx, hr]
  exact hK2 _ _ (hK v' w' h2)
def zStep : Obj := .cells #[.bool false, .string ⟨#[]⟩, .bool false] 36
set_option maxRecDepth 100000 in
theorem step_allocHolds {ops : Array Oper} {o : Oper} {a : Act} {g w : World} {F : List SProp} {K : Act → World → Prop} {Q : Exit → Act → World → Prop} {E : Prop} (hg : o.guard = none) (d : Nat) (hd : o.dst = some d) (hop : o.op = .alloc 36) (h : Holds g w F)
    (hK : ∀ x w', Holds g w' (pts x (.cells #[.bool false, .string ⟨#[]⟩, .bool false] 36) :: F) → K (a.put (some d) (.pointer (some ⟨x, 0, none⟩))) w') : if Region.wanted o (yielded ops a.tmps) = true then Oper.wp Tryz.prog o a w K Q else E := by
  have hw : Region.wanted o (yielded ops a.tmps) = true := by simp [Region.wanted, hg]
  rw [if_pos hw]
  unfold Oper.wp
  have e : (Instr.alloc 36 true (.tuple #[])).run Tryz.prog w = .ok (.pointer (some ⟨w.heap.size, 0, none⟩)) (w.alloc zStep) := by kernel_rfl
  simp [execOp, hop, e, Result.andThen]
  have H2 := hK _ _ h.alloc
  rw [← hd] at H2
  exact H2
set_option maxRecDepth 100000 in
theorem step_put3 {ops : Array Oper} {o : Oper} {a : Act} {w g : World} {F : List SProp} {x : Nat} {u0 u1 u2 : Value} {b0 b2 : Bool} {s1 : ByteArray} {K : Act → World → Prop} {Q : Exit → Act → World → Prop} {E : Prop} (hg : o.guard = none) (hd : o.dst = none) (p v : Operand) (hop : o.op = .store 36 p v)
    (hp : a.eval p = .pointer (some ⟨x, 0, none⟩)) (hv : a.eval v = .agg #[.bool b0, .string s1, .bool b2]) (h : Holds g w (pts x (.cells #[u0, u1, u2] 36) :: F))
    (hK : ∀ w', Holds g w' (pts x (.cells #[.bool b0, .string s1, .bool b2] 36) :: F) → K (a.put none undef) w') : if Region.wanted o (yielded ops a.tmps) = true then Oper.wp Tryz.prog o a w K Q else E := by
  have hw : Region.wanted o (yielded ops a.tmps) = true := by simp [Region.wanted, hg]
  rw [if_pos hw]
  obtain ⟨t0, t1, t2⟩ := cells3 h
  obtain ⟨f0, f1, f2⟩ := free3 h
  have H := put3 h (.bool b0) (.string s1) (.bool b2)
  unfold Oper.wp
  simp [execOp, hop, hp, hv]
  go_simp
  exact hK _ H
theorem zeroI (w : World) : (zeroValue 3).run Tryz.prog w = .ok (.int .i64 0) w := by kernel_rfl
set_option maxRecDepth 100000
set_option maxHeartbeats 40000000
theorem walk_LearnFollows (most : Int) (vk : Value) (keys : List ByteArray) (W : World) (hE : Env W) (hk : RowR W vk (strs keys)) :
    Calls Tryz.prog 6 #[.int .i64 most, vk] W fun e w' => e = .returned (.bool true) ∧ Holds W w' [] := by
  have hE := hide hE
  obtain ⟨ak, ck, hvk⟩ := hk.shape
  rw [strs_length] at hvk
  subst hvk
  obtain ⟨n, hn⟩ : ∃ n, keys.length = n := ⟨_, rfl⟩
  rw [hn] at hk ⊢
  replace hn := hide hn
  replace hk := hide hk
  have h0 := hide (Holds.start W)
  by_cases g1 : 100 < n
  · have g1' : (100 : Int) < n := by omega
    go_enter Tryz.func6, Tryz.ntmps6
    go_wp2_with (go_at_call 11; (with_reducible refine (awake10 W hE.out).mono ?_); rintro r w1 ⟨rfl, k1⟩)
    go_ret
    exact ⟨rfl, h0.out.keep k1⟩
  have g1' : ¬ (100 : Int) < n := by omega
  by_cases g5 : most < 1
  · go_enter Tryz.func6, Tryz.ntmps6
    go_wp2_with (go_at_call 11; (with_reducible refine (awake10 W hE.out).mono ?_); rintro r w1 ⟨rfl, k1⟩)
    go_ret
    exact ⟨rfl, h0.out.keep k1⟩
  by_cases g6 : 1000 < most
  · go_enter Tryz.func6, Tryz.ntmps6
    go_wp2_with (go_at_call 11; (with_reducible refine (awake10 W hE.out).mono ?_); rintro r w1 ⟨rfl, k1⟩)
    go_ret
    exact ⟨rfl, h0.out.keep k1⟩
  obtain ⟨m, rfl⟩ : ∃ m : Nat, most = m := ⟨most.toNat, by omega⟩
  have hm : Hide (0 < m ∧ m ≤ 1000) := ⟨by omega⟩
  have hnl : Hide (n ≤ 100) := ⟨by omega⟩
  obtain ⟨hi, hhi⟩ : ∃ x : Nat, x = 18446744073709551615 := ⟨_, rfl⟩
  have hmm := @run_makeMap Tryz.prog
  go_enter Tryz.func6, Tryz.ntmps6
  go_wp2_with (go_at_call 11; (with_reducible refine (awake10 W hE.out).mono ?_); rintro r w1 ⟨rfl, k1⟩; have k1 := hide k1)
  have h1 := hide ((h0.out.keep k1.out).ownNil 28 1)
  clear g1 g5 g6 g1' hhi
  go_loopg [5, 6] (100) (fun c v x wr => ∃ j, Hide (100 - j = c) ∧ j ≤ 100 ∧ x = .int .i64 (j : Nat) ∧ Holds W wr (OwnNums v (List.replicate j hiDraw) :: []))
  case atStart => exact ⟨0, ⟨rfl⟩, Nat.zero_le _, rfl, h1.out⟩
  case round =>
    clear h1
    obtain ⟨j, hcj, hj, rfl, hh⟩ := hrel
    have h3 := hide hh
    clear hh
    by_cases hlt : j < 100
    · have hlt' : (j : Int) < 100 := by omega
      have e1 : IntKind.i64.wrap ((j : Int) + 1) = ((j + 1 : Nat) : Int) := by rw [IntWalk.i64_in _ (by omega)]; omega
      have hrl : Hide ((List.replicate j hiDraw).length + [hiDraw].length ≤ 2000000) := ⟨by rw [List.length_replicate, List.length_singleton]; omega⟩
      have HA := hide (Holds.p1 (Holds.oneNum (h3.out.alloc (o := .cells #[.int .u64 (hiDraw : Nat)] 28))))
      go_wp2_with (at_builtin; refine wpList_append_nums rfl _ _ rfl HA.out hrl.out rfl rfl ?_; intro v5 w5 h5; have h5 := hide h5)
      go_roundg (100 - (j + 1))
      case measure => rw [← hcj.out]; omega
      case rel => exact ⟨j + 1, ⟨rfl⟩, by omega, rfl, by rw [List.replicate_succ']; exact h5.out⟩
    · obtain rfl : j = 100 := by omega
      have hlt' : ¬ (100 : Int) < 100 := by omega
      obtain ⟨avh, cvh, hvh⟩ := (Holds.numsAt h3.out).shape
      rw [nums64_length, List.length_replicate] at hvh
      subst hvh
      have cA := hide (Made 5 (.inl rfl) m (by have := hm.out; omega) (.slice none 0 0) [] (Nat.zero_le _) (fun wx hx => .inl (.inl ⟨rfl, rfl⟩)) h3.out)
      have cB := hide (fun (a ta : Nat) (sa : Ln) (t : List (List Nat)) (w' : World) (hw : Holds W w' (IsLn a ta sa :: IsTape ta t :: OwnNums (.slice avh 100 cvh) (List.replicate 100 hiDraw) :: [])) => Made 5 (.inl rfl) m (by have := hm.out; omega) (.slice avh 100 cvh) (List.replicate 100 hiDraw) (by rw [List.length_replicate]; omega) (fun wx hx => .inl (Holds.numsAt (Holds.p2 hx))) hw)
      go_upto_region 13 with (first
        | (go_at_call 12; (with_reducible refine cA.out.mono ?_); rintro r w2 ⟨a, ta, rfl, h4⟩; have h4 := hide h4)
        | (go_at_call 12; (with_reducible refine (cB.out _ _ _ _ _ h4.out).mono ?_); rintro r w3 ⟨b, tb, rfl, h5⟩; have h5 := hide h5))
      obtain ⟨bl, hbl⟩ : ∃ r, w3.heap.size = r := ⟨_, rfl⟩
      have h6 := Holds.newMap h5.out
      have h7 := Holds.newMap h6
      simp only [World.size_alloc, hbl] at h7
      have h7 := hide h7
      have hA0 := hide (FolA.new m (fun _ => 0) (fun _ => rfl))
      have hB0 := hide (FolB.new m (fun _ => 0) (fun _ => rfl))
      clear h3 h4 h5 h6 cA cB hj hlt hlt' hcj
      go_upto_region 16 with fail
      obtain ⟨bt, hbt⟩ : ∃ q, bl + 1 = q := ⟨_, rfl⟩
      rw [hbt] at h7
      try simp only [hbt]
      generalize (w3.alloc (Obj.map #[] 0)).alloc (Obj.map #[] 0) = W8 at h7 ⊢
      clear hbl hbt
      go_loopg [11] (n) (fun c x wr => ∃ i j sa sb l t last times, Hide (n - i = c) ∧ i ≤ n ∧ x = .int .i64 (i : Nat) ∧ Hide (FolA m i last sa) ∧ Hide (FolB m i j times sb) ∧ Hide (∀ k, (Assoc.get l k).getD (.int .i64 0) = .int .i64 (last k : Nat)) ∧ Hide (∀ k, (Assoc.get t k).getD (.int .i64 0) = .int .i64 (times k : Nat)) ∧ Hide (∀ k, times k ≤ i) ∧ Holds W wr (OwnMap bt t :: OwnMap bl l :: IsLn b tb sb :: IsTape tb sb.tape :: IsLn a ta sa :: IsTape ta sa.tape :: []))
      case atStart => exact ⟨0, 0, Ln.new 5 m [[]] 0, Ln.new 5 m [List.replicate 100 hiDraw] 0, [], [], fun _ => 0, fun _ => 0, ⟨rfl⟩, Nat.zero_le _, rfl, hA0, hB0, ⟨fun k => rfl⟩, ⟨fun k => rfl⟩, ⟨fun k => Nat.le_refl _⟩, h7.out.p6.drop⟩
      case round =>
        clear h7 hA0 hB0
        obtain ⟨i, j, sa, sb, l, t, last, times, hci, hin, rfl, hA, hB, hlm, htm, htl, hh⟩ := hrel
        have h3 := hide hh
        clear hh
        by_cases hlt : i < n
        · have hlt' : (i : Int) < n := by omega
          have hnl2 := hnl.out
          have e1 : IntKind.i64.wrap ((i : Int) + 1) = ((i + 1 : Nat) : Int) := by rw [IntWalk.i64_in _ (by omega)]; omega
          obtain ⟨key, hx⟩ : ∃ x, keys[i]? = some x := ⟨_, List.getElem?_eq_getElem (by rw [hn.out]; exact hlt)⟩
          obtain ⟨bk, ok, hak, cW⟩ := RowR.strCell hk.out hx
          subst hak
          have cx := h3.out.toKeep.cell cW
          replace cW := hide cW
          replace hx := hide hx
          by_cases hks : 200 < key.size
          · have hks' : (200 : Int) < key.size := by omega
            clear hks
            go_wp2
            go_ret
            exact ⟨rfl, h3.out.nil⟩
          · have hks' : ¬ (200 : Int) < key.size := by omega
            clear hks
            have hmo := hm.out
            obtain ⟨⟨sa2, ⟨hita, xa, outa⟩⟩, hsa⟩ : ∃ q, sa.req key = q := ⟨_, rfl⟩
            obtain ⟨⟨sb2, ⟨hitb, xb, outb⟩⟩, hsb⟩ : ∃ q, sb.req key = q := ⟨_, rfl⟩
            have rA := hA.out.req hm.out.1 key (fun c => if c = key then i + 1 else last c) (fun _ => rfl)
            have rB := hB.out.req hm.out.1 (by omega) key
            rw [hsa] at rA
            rw [hsb] at rB
            dsimp only at rA rB
            obtain ⟨rA1, rA2⟩ := rA
            obtain ⟨rB1, rB2⟩ := rB
            have lA : sa.len ≤ 1000 := by have := hA.out.inv.len; rw [← Ln.len_res, hA.out.most] at this; omega
            have lB : sb.len ≤ 1000 := by have := hB.out.inv.len; rw [← Ln.len_res, hB.out.most] at this; omega
            have cRa := hide (fun (w' : World) (L : List SProp) (hw : Holds W w' (IsLn a ta sa :: IsTape ta sa.tape :: L)) => by
              have c := Ln_Request hw key (4 * i) hA.out.fit (by omega) (by have := hA.out.most; omega)
              rw [hsa] at c
              dsimp only [stepV] at c
              exact c)
            have cRb := hide (fun (w' : World) (L : List SProp) (hw : Holds W w' (IsLn b tb sb :: IsTape tb sb.tape :: L)) => by
              have c := Ln_Request hw key (4 * i) hB.out.fit (by omega) (by have := hB.out.most; omega)
              rw [hsb] at c
              dsimp only [stepV] at c
              exact c)
            obtain ⟨ya, hya⟩ : ∃ y, sa.A.keys = y := ⟨_, rfl⟩
            obtain ⟨yb, hyb⟩ : ∃ y, sb.A.keys = y := ⟨_, rfl⟩
            have cKa := hide (fun (w' : World) (L : List SProp) (hw : Holds W w' (IsLn a ta sa :: L)) => by
              have c := Ln_Keys hw hA.out.fit.al (by omega)
              rw [hya] at c
              exact c)
            have cKb := hide (fun (w' : World) (L : List SProp) (hw : Holds W w' (IsLn b tb sb :: L)) => by
              have c := Ln_Keys hw hB.out.fit.al (by omega)
              rw [hyb] at c
              exact c)
            obtain ⟨Ka, hKa⟩ : ∃ y, ya.length = y := ⟨_, rfl⟩
            obtain ⟨Kb, hKb⟩ : ∃ y, yb.length = y := ⟨_, rfl⟩
            have pl : ∀ p : Pol, p.keys.length = p.len := fun p => by
              cases p with
              | lru s => exact List.length_reverse
              | lfu s => exact List.length_map _
              | sr s =>
                show (s.n.reverse ++ s.a.reverse).length = s.n.length + s.a.length
                rw [List.length_append, List.length_reverse, List.length_reverse]
            have lKa : Ka ≤ 1000 := by rw [← hKa, ← hya, pl]; exact lA
            have lKb : Kb ≤ 1000 := by rw [← hKb, ← hyb, pl]; exact lB
            rw [hya] at rA2
            rw [hyb] at rB2
            replace rA1 := hide rA1
            replace rA2 := hide rA2
            replace rB1 := hide rB1
            replace rB2 := hide rB2
            replace hsa := hide hsa
            replace hsb := hide hsb
            replace hya := hide hya
            replace hyb := hide hyb
            replace hKa := hide hKa
            replace hKb := hide hKb
            replace lKa := hide lKa
            replace lKb := hide lKb
            clear lA lB pl hmo
            go_upto_region 21 with (first
              | (go_at_call 20; (with_reducible refine (cKa.out _ _ (Holds.p4 h3.out)).mono ?_); rintro r w4 ⟨v4, rfl, h4⟩; obtain ⟨a4, c4, hv4⟩ := (Holds.strsAt h4).shape; rw [strs_length, hKa.out] at hv4; subst hv4; have h4 := hide h4)
              | (go_at_call 20; (with_reducible refine (cKb.out _ _ (Holds.p4 h4.out)).mono ?_); rintro r w5 ⟨v5, rfl, h5⟩; obtain ⟨a5, c5, hv5⟩ := (Holds.strsAt h5).shape; rw [strs_length, hKb.out] at hv5; subst hv5; have h5 := hide h5))
            have h5 := hide h5.out.p6.p2.p7.p5
            have S0 := hide (h5.out.toKeep.cell cW.out)
            clear h3 h4 cx
            go_cut [14, 15] (fun v14 v15 wx => ∃ p q, v14 = .pointer (some ⟨p, 0, none⟩) ∧ v15 = .pointer (some ⟨q, 0, none⟩) ∧ Holds W wx (pts p (.cells #[.bool hita, .string xa, .bool outa] 36) :: pts q (.cells #[.bool hitb, .string xb, .bool outb] 36) :: IsLn a ta sa2 :: IsTape ta sa2.tape :: IsLn b tb sb2 :: IsTape tb sb2.tape :: OwnStrs (.slice a5 Kb c5) yb :: OwnStrs (.slice a4 Ka c4) ya :: OwnMap bt t :: OwnMap bl l :: []))
            case first =>
              have h_0 := hide h5.out.drew
              refine wp_region_held_drew (S := fun w' => w'.cell? ⟨bk, ok + i, none⟩ = some (.string key)) (by kernel_rfl) (h_0.out.toKeep.cell cW.out) (fun hHeld => ?_)
              (refine wpAnyH_take (i := 0) (v := ?_) rfl (by kernel_rfl) (by kernel_rfl) (by kernel_rfl) (fun _ _ _ h => h) (Or.inl ⟨by kernel_rfl, ?_⟩) (by assumption) ?_; rotate_left; focus (intro w hSw; (try dsimp only at hSw); go_simp; (try with_reducible rfl)); (try simp only [Act.put, List.setIfInBounds_toArray, List.set_cons_zero, List.set_cons_succ]))
              (refine wpAnyH_take (i := 1) (v := ?_) rfl (by kernel_rfl) (by kernel_rfl) (by kernel_rfl) (fun _ _ _ h => h) (Or.inl ⟨by kernel_rfl, ?_⟩) (by assumption) ?_; rotate_left; focus (intro w hSw; (try dsimp only at hSw); go_simp; (try with_reducible rfl)); (try simp only [Act.put, List.setIfInBounds_toArray, List.set_cons_zero, List.set_cons_succ]))
              (refine wpAnyH_take (i := 2) (v := ?_) rfl (by kernel_rfl) (by kernel_rfl) (by kernel_rfl) (fun _ _ _ h => h) (Or.inl ⟨by kernel_rfl, ?_⟩) (by assumption) ?_; rotate_left; focus (intro w hSw; (try dsimp only at hSw); go_simp; (try with_reducible rfl)); (try simp only [Act.put, List.setIfInBounds_toArray, List.set_cons_zero, List.set_cons_succ]))
              (refine wpAnyH_take (i := 3) (v := ?_) rfl (by kernel_rfl) (by kernel_rfl) (by kernel_rfl) (fun _ _ _ h => h) (Or.inl ⟨by kernel_rfl, ?_⟩) (by assumption) ?_; rotate_left; focus (intro w hSw; (try dsimp only at hSw); go_simp; (try with_reducible rfl)); (try simp only [Act.put, List.setIfInBounds_toArray, List.set_cons_zero, List.set_cons_succ]))
              (refine wpAnyH_take (i := 4) (v := ?_) rfl (by kernel_rfl) (by kernel_rfl) (by kernel_rfl) (fun _ _ _ h => h) (Or.inl ⟨by kernel_rfl, ?_⟩) (by assumption) ?_; rotate_left; focus (intro w hSw; (try dsimp only at hSw); go_simp; (try with_reducible rfl)); (try simp only [Act.put, List.setIfInBounds_toArray, List.set_cons_zero, List.set_cons_succ]))
              (refine wpAnyH_take (i := 6) (v := ?_) rfl (by kernel_rfl) (by kernel_rfl) (by kernel_rfl) (fun _ _ _ h => h) (Or.inl ⟨by kernel_rfl, ?_⟩) (by assumption) ?_; rotate_left; focus (intro w hSw; (try dsimp only at hSw); go_simp; (try with_reducible rfl)); (try simp only [Act.put, List.setIfInBounds_toArray, List.set_cons_zero, List.set_cons_succ]))
              (refine wpAnyH_take (i := 7) (v := ?_) rfl (by kernel_rfl) (by kernel_rfl) (by kernel_rfl) (fun _ _ _ h => h) (Or.inl ⟨by kernel_rfl, ?_⟩) (by assumption) ?_; rotate_left; focus (intro w hSw; (try dsimp only at hSw); go_simp; (try with_reducible rfl)); (try simp only [Act.put, List.setIfInBounds_toArray, List.set_cons_zero, List.set_cons_succ]))
              (refine wpAnyH_take (i := 8) (v := ?_) rfl (by kernel_rfl) (by kernel_rfl) (by kernel_rfl) (fun _ _ _ h => h) (Or.inl ⟨by kernel_rfl, ?_⟩) (by assumption) ?_; rotate_left; focus (intro w hSw; (try dsimp only at hSw); go_simp; (try with_reducible rfl)); (try simp only [Act.put, List.setIfInBounds_toArray, List.set_cons_zero, List.set_cons_succ]))
              (refine wpAnyH_take (i := 9) (v := ?_) rfl (by kernel_rfl) (by kernel_rfl) (by kernel_rfl) (fun _ _ _ h => h) (Or.inl ⟨by kernel_rfl, ?_⟩) (by assumption) ?_; rotate_left; focus (intro w hSw; (try dsimp only at hSw); go_simp; (try with_reducible rfl)); (try simp only [Act.put, List.setIfInBounds_toArray, List.set_cons_zero, List.set_cons_succ]))
              (refine wpAnyH_take (i := 10) (v := ?_) rfl (by kernel_rfl) (by kernel_rfl) (by kernel_rfl) (fun _ _ _ h => h) (Or.inl ⟨by kernel_rfl, ?_⟩) (by assumption) ?_; rotate_left; focus (intro w hSw; (try dsimp only at hSw); go_simp; (try with_reducible rfl)); (try simp only [Act.put, List.setIfInBounds_toArray, List.set_cons_zero, List.set_cons_succ]))
              refine wpAnyH_ready (rs := [5, 12, 13]) (by kernel_rfl) (by simp) ?_
              refine AllReadyH.cons rfl (fun K hK => ?_) (AllReadyH.cons rfl (fun K hK => ?_) (AllReadyH.cons rfl (fun K hK => ?_) AllReadyH.nil))
              · go_simp
                go_at_call 17
                (with_reducible refine (cRa.out _ _ h_0.out).mono ?_)
                rintro r_1 w_1 ⟨rfl, h_1⟩
                have h_1 := hide h_1
                refine hK.out _ _ (h_1.out.toKeep.cell cW.out) (fun hHeld => ?_)
                clear hK K
                (try simp only [Act.put, List.setIfInBounds_toArray, List.set_cons_zero, List.set_cons_succ])
                refine wpAnyH_ready (rs := [11, 12, 13]) (by kernel_rfl) (by simp) ?_
                refine AllReadyH.cons rfl (fun K hK => ?_) (AllReadyH.cons rfl (fun K hK => ?_) (AllReadyH.cons rfl (fun K hK => ?_) AllReadyH.nil))
                · go_simp
                  go_at_call 17
                  (with_reducible refine (cRb.out _ _ h_1.out.p2.p3.p1).mono ?_)
                  rintro r_2 w_2 ⟨rfl, h_2⟩
                  have h_2 := hide h_2.p2.p3.p1
                  refine hK.out _ _ (h_2.out.toKeep.cell cW.out) (fun hHeld => ?_)
                  clear hK K
                  (try simp only [Act.put, List.setIfInBounds_toArray, List.set_cons_zero, List.set_cons_succ])
                  refine wpAnyH_ready (rs := [12, 13]) (by kernel_rfl) (by simp) ?_
                  refine AllReadyH.cons rfl (fun K hK => ?_) (AllReadyH.cons rfl (fun K hK => ?_) AllReadyH.nil)
                  · refine step_allocHolds rfl 14 rfl rfl h_2.out ?_
                    intro pa w_3 h_3
                    have h_3 := hide h_3.p4.p4.p4.p4
                    refine hK.out _ _ (h_3.out.toKeep.cell cW.out) (fun hHeld => ?_)
                    clear hK K
                    (try simp only [Act.put, List.setIfInBounds_toArray, List.set_cons_zero, List.set_cons_succ])
                    refine wpAnyH_ready (rs := [13]) (by kernel_rfl) (by simp) ?_
                    refine AllReadyH.cons rfl (fun K hK => ?_) AllReadyH.nil
                    refine step_allocHolds rfl 15 rfl rfl h_3.out ?_
                    intro pb w_4 h_4
                    have h_4 := hide h_4.p5.p5.p5.p5.p5
                    refine hK.out _ _ (h_4.out.toKeep.cell cW.out) (fun hHeld => ?_)
                    clear hK K
                    (try simp only [Act.put, List.setIfInBounds_toArray, List.set_cons_zero, List.set_cons_succ])
                    refine wpAnyH_ready (rs := [14]) (by kernel_rfl) (by simp) ?_
                    refine AllReadyH.cons rfl (fun K hK => ?_) AllReadyH.nil
                    refine step_put3 (x := pa) (b0 := hita) (s1 := xa) (b2 := outa) rfl rfl _ _ rfl (by kernel_rfl) (by kernel_rfl) h_4.out.p4 ?_
                    intro w_5 h_5
                    have h_5 := hide h_5.p4.p4.p4.p4
                    refine hK.out _ _ (h_5.out.toKeep.cell cW.out) (fun hHeld => ?_)
                    clear hK K
                    (try simp only [Act.put])
                    refine wpAnyH_ready (rs := [15]) (by kernel_rfl) (by simp) ?_
                    refine AllReadyH.cons rfl (fun K hK => ?_) AllReadyH.nil
                    refine step_put3 (x := pb) (b0 := hitb) (s1 := xb) (b2 := outb) rfl rfl _ _ rfl (by kernel_rfl) (by kernel_rfl) h_5.out.p5 ?_
                    intro w_6 h_6
                    have h_6 := hide h_6
                    refine hK.out _ _ (h_6.out.toKeep.cell cW.out) (fun hHeld => ?_)
                    clear hK K
                    (try simp only [Act.put])
                    refine wpAnyH_done (by kernel_rfl) ?_ _
                    go_wp2
                    go_meet
                    case rel => exact ⟨pa, pb, rfl, rfl, h_6.out.p5⟩
                  · refine step_allocHolds rfl 15 rfl rfl h_2.out ?_
                    intro pb w_7 h_7
                    have h_7 := hide h_7.p4.p4.p4.p4
                    refine hK.out _ _ (h_7.out.toKeep.cell cW.out) (fun hHeld => ?_)
                    clear hK K
                    (try simp only [Act.put, List.setIfInBounds_toArray, List.set_cons_zero, List.set_cons_succ])
                    refine wpAnyH_ready (rs := [12]) (by kernel_rfl) (by simp) ?_
                    refine AllReadyH.cons rfl (fun K hK => ?_) AllReadyH.nil
                    refine step_allocHolds rfl 14 rfl rfl h_7.out ?_
                    intro pa w_8 h_8
                    have h_8 := hide h_8.p4.p4.p4.p4
                    refine hK.out _ _ (h_8.out.toKeep.cell cW.out) (fun hHeld => ?_)
                    clear hK K
                    (try simp only [Act.put, List.setIfInBounds_toArray, List.set_cons_zero, List.set_cons_succ])
                    refine wpAnyH_ready (rs := [14]) (by kernel_rfl) (by simp) ?_
                    refine AllReadyH.cons rfl (fun K hK => ?_) AllReadyH.nil
                    refine step_put3 (x := pa) (b0 := hita) (s1 := xa) (b2 := outa) rfl rfl _ _ rfl (by kernel_rfl) (by kernel_rfl) h_8.out.p4 ?_
                    intro w_9 h_9
                    have h_9 := hide h_9.p4.p4.p4.p4
                    refine hK.out _ _ (h_9.out.toKeep.cell cW.out) (fun hHeld => ?_)
                    clear hK K
                    (try simp only [Act.put])
                    refine wpAnyH_ready (rs := [15]) (by kernel_rfl) (by simp) ?_
                    refine AllReadyH.cons rfl (fun K hK => ?_) AllReadyH.nil
                    refine step_put3 (x := pb) (b0 := hitb) (s1 := xb) (b2 := outb) rfl rfl _ _ rfl (by kernel_rfl) (by kernel_rfl) h_9.out.p5 ?_
                    intro w_10 h_10
                    have h_10 := hide h_10
                    refine hK.out _ _ (h_10.out.toKeep.cell cW.out) (fun hHeld => ?_)
                    clear hK K
                    (try simp only [Act.put])
                    refine wpAnyH_done (by kernel_rfl) ?_ _
                    go_wp2
                    go_meet
                    case rel => exact ⟨pa, pb, rfl, rfl, h_10.out.p5⟩
                · refine step_allocHolds rfl 14 rfl rfl h_1.out ?_
                  intro pa w_11 h_11
                  have h_11 := hide h_11.p4.p4.p4.p4
                  refine hK.out _ _ (h_11.out.toKeep.cell cW.out) (fun hHeld => ?_)
                  clear hK K
                  (try simp only [Act.put, List.setIfInBounds_toArray, List.set_cons_zero, List.set_cons_succ])
                  refine wpAnyH_ready (rs := [11, 13]) (by kernel_rfl) (by simp) ?_
                  refine AllReadyH.cons rfl (fun K hK => ?_) (AllReadyH.cons rfl (fun K hK => ?_) AllReadyH.nil)
                  · go_simp
                    go_at_call 17
                    (with_reducible refine (cRb.out _ _ h_11.out.p2.p3.p1).mono ?_)
                    rintro r_12 w_12 ⟨rfl, h_12⟩
                    have h_12 := hide h_12.p2.p3.p1
                    refine hK.out _ _ (h_12.out.toKeep.cell cW.out) (fun hHeld => ?_)
                    clear hK K
                    (try simp only [Act.put, List.setIfInBounds_toArray, List.set_cons_zero, List.set_cons_succ])
                    refine wpAnyH_ready (rs := [13]) (by kernel_rfl) (by simp) ?_
                    refine AllReadyH.cons rfl (fun K hK => ?_) AllReadyH.nil
                    refine step_allocHolds rfl 15 rfl rfl h_12.out ?_
                    intro pb w_13 h_13
                    have h_13 := hide h_13.p5.p5.p5.p5.p5
                    refine hK.out _ _ (h_13.out.toKeep.cell cW.out) (fun hHeld => ?_)
                    clear hK K
                    (try simp only [Act.put, List.setIfInBounds_toArray, List.set_cons_zero, List.set_cons_succ])
                    refine wpAnyH_ready (rs := [14]) (by kernel_rfl) (by simp) ?_
                    refine AllReadyH.cons rfl (fun K hK => ?_) AllReadyH.nil
                    refine step_put3 (x := pa) (b0 := hita) (s1 := xa) (b2 := outa) rfl rfl _ _ rfl (by kernel_rfl) (by kernel_rfl) h_13.out.p4 ?_
                    intro w_14 h_14
                    have h_14 := hide h_14.p4.p4.p4.p4
                    refine hK.out _ _ (h_14.out.toKeep.cell cW.out) (fun hHeld => ?_)
                    clear hK K
                    (try simp only [Act.put])
                    refine wpAnyH_ready (rs := [15]) (by kernel_rfl) (by simp) ?_
                    refine AllReadyH.cons rfl (fun K hK => ?_) AllReadyH.nil
                    refine step_put3 (x := pb) (b0 := hitb) (s1 := xb) (b2 := outb) rfl rfl _ _ rfl (by kernel_rfl) (by kernel_rfl) h_14.out.p5 ?_
                    intro w_15 h_15
                    have h_15 := hide h_15
                    refine hK.out _ _ (h_15.out.toKeep.cell cW.out) (fun hHeld => ?_)
                    clear hK K
                    (try simp only [Act.put])
                    refine wpAnyH_done (by kernel_rfl) ?_ _
                    go_wp2
                    go_meet
                    case rel => exact ⟨pa, pb, rfl, rfl, h_15.out.p5⟩
                  · refine step_allocHolds rfl 15 rfl rfl h_11.out ?_
                    intro pb w_16 h_16
                    have h_16 := hide h_16.p5.p5.p5.p5.p5
                    refine hK.out _ _ (h_16.out.toKeep.cell cW.out) (fun hHeld => ?_)
                    clear hK K
                    (try simp only [Act.put, List.setIfInBounds_toArray, List.set_cons_zero, List.set_cons_succ])
                    refine wpAnyH_ready (rs := [11]) (by kernel_rfl) (by simp) ?_
                    refine AllReadyH.cons rfl (fun K hK => ?_) AllReadyH.nil
                    go_simp
                    go_at_call 17
                    (with_reducible refine (cRb.out _ _ h_16.out.p2.p3.p1).mono ?_)
                    rintro r_17 w_17 ⟨rfl, h_17⟩
                    have h_17 := hide h_17.p2.p3.p1
                    refine hK.out _ _ (h_17.out.toKeep.cell cW.out) (fun hHeld => ?_)
                    clear hK K
                    (try simp only [Act.put, List.setIfInBounds_toArray, List.set_cons_zero, List.set_cons_succ])
                    refine wpAnyH_ready (rs := [14]) (by kernel_rfl) (by simp) ?_
                    refine AllReadyH.cons rfl (fun K hK => ?_) AllReadyH.nil
                    refine step_put3 (x := pa) (b0 := hita) (s1 := xa) (b2 := outa) rfl rfl _ _ rfl (by kernel_rfl) (by kernel_rfl) h_17.out.p4 ?_
                    intro w_18 h_18
                    have h_18 := hide h_18.p4.p4.p4.p4
                    refine hK.out _ _ (h_18.out.toKeep.cell cW.out) (fun hHeld => ?_)
                    clear hK K
                    (try simp only [Act.put])
                    refine wpAnyH_ready (rs := [15]) (by kernel_rfl) (by simp) ?_
                    refine AllReadyH.cons rfl (fun K hK => ?_) AllReadyH.nil
                    refine step_put3 (x := pb) (b0 := hitb) (s1 := xb) (b2 := outb) rfl rfl _ _ rfl (by kernel_rfl) (by kernel_rfl) h_18.out.p5 ?_
                    intro w_19 h_19
                    have h_19 := hide h_19
                    refine hK.out _ _ (h_19.out.toKeep.cell cW.out) (fun hHeld => ?_)
                    clear hK K
                    (try simp only [Act.put])
                    refine wpAnyH_done (by kernel_rfl) ?_ _
                    go_wp2
                    go_meet
                    case rel => exact ⟨pa, pb, rfl, rfl, h_19.out.p5⟩
                · refine step_allocHolds rfl 15 rfl rfl h_1.out ?_
                  intro pb w_20 h_20
                  have h_20 := hide h_20.p4.p4.p4.p4
                  refine hK.out _ _ (h_20.out.toKeep.cell cW.out) (fun hHeld => ?_)
                  clear hK K
                  (try simp only [Act.put, List.setIfInBounds_toArray, List.set_cons_zero, List.set_cons_succ])
                  refine wpAnyH_ready (rs := [11, 12]) (by kernel_rfl) (by simp) ?_
                  refine AllReadyH.cons rfl (fun K hK => ?_) (AllReadyH.cons rfl (fun K hK => ?_) AllReadyH.nil)
                  · go_simp
                    go_at_call 17
                    (with_reducible refine (cRb.out _ _ h_20.out.p2.p3.p1).mono ?_)
                    rintro r_21 w_21 ⟨rfl, h_21⟩
                    have h_21 := hide h_21.p2.p3.p1
                    refine hK.out _ _ (h_21.out.toKeep.cell cW.out) (fun hHeld => ?_)
                    clear hK K
                    (try simp only [Act.put, List.setIfInBounds_toArray, List.set_cons_zero, List.set_cons_succ])
                    refine wpAnyH_ready (rs := [12]) (by kernel_rfl) (by simp) ?_
                    refine AllReadyH.cons rfl (fun K hK => ?_) AllReadyH.nil
                    refine step_allocHolds rfl 14 rfl rfl h_21.out ?_
                    intro pa w_22 h_22
                    have h_22 := hide h_22.p4.p4.p4.p4
                    refine hK.out _ _ (h_22.out.toKeep.cell cW.out) (fun hHeld => ?_)
                    clear hK K
                    (try simp only [Act.put, List.setIfInBounds_toArray, List.set_cons_zero, List.set_cons_succ])
                    refine wpAnyH_ready (rs := [14]) (by kernel_rfl) (by simp) ?_
                    refine AllReadyH.cons rfl (fun K hK => ?_) AllReadyH.nil
                    refine step_put3 (x := pa) (b0 := hita) (s1 := xa) (b2 := outa) rfl rfl _ _ rfl (by kernel_rfl) (by kernel_rfl) h_22.out.p4 ?_
                    intro w_23 h_23
                    have h_23 := hide h_23.p4.p4.p4.p4
                    refine hK.out _ _ (h_23.out.toKeep.cell cW.out) (fun hHeld => ?_)
                    clear hK K
                    (try simp only [Act.put])
                    refine wpAnyH_ready (rs := [15]) (by kernel_rfl) (by simp) ?_
                    refine AllReadyH.cons rfl (fun K hK => ?_) AllReadyH.nil
                    refine step_put3 (x := pb) (b0 := hitb) (s1 := xb) (b2 := outb) rfl rfl _ _ rfl (by kernel_rfl) (by kernel_rfl) h_23.out.p5 ?_
                    intro w_24 h_24
                    have h_24 := hide h_24
                    refine hK.out _ _ (h_24.out.toKeep.cell cW.out) (fun hHeld => ?_)
                    clear hK K
                    (try simp only [Act.put])
                    refine wpAnyH_done (by kernel_rfl) ?_ _
                    go_wp2
                    go_meet
                    case rel => exact ⟨pa, pb, rfl, rfl, h_24.out.p5⟩
                  · refine step_allocHolds rfl 14 rfl rfl h_20.out ?_
                    intro pa w_25 h_25
                    have h_25 := hide h_25.p4.p4.p4.p4
                    refine hK.out _ _ (h_25.out.toKeep.cell cW.out) (fun hHeld => ?_)
                    clear hK K
                    (try simp only [Act.put, List.setIfInBounds_toArray, List.set_cons_zero, List.set_cons_succ])
                    refine wpAnyH_ready (rs := [11]) (by kernel_rfl) (by simp) ?_
                    refine AllReadyH.cons rfl (fun K hK => ?_) AllReadyH.nil
                    go_simp
                    go_at_call 17
                    (with_reducible refine (cRb.out _ _ h_25.out.p2.p3.p1).mono ?_)
                    rintro r_26 w_26 ⟨rfl, h_26⟩
                    have h_26 := hide h_26.p2.p3.p1
                    refine hK.out _ _ (h_26.out.toKeep.cell cW.out) (fun hHeld => ?_)
                    clear hK K
                    (try simp only [Act.put, List.setIfInBounds_toArray, List.set_cons_zero, List.set_cons_succ])
                    refine wpAnyH_ready (rs := [14]) (by kernel_rfl) (by simp) ?_
                    refine AllReadyH.cons rfl (fun K hK => ?_) AllReadyH.nil
                    refine step_put3 (x := pa) (b0 := hita) (s1 := xa) (b2 := outa) rfl rfl _ _ rfl (by kernel_rfl) (by kernel_rfl) h_26.out.p4 ?_
                    intro w_27 h_27
                    have h_27 := hide h_27.p4.p4.p4.p4
                    refine hK.out _ _ (h_27.out.toKeep.cell cW.out) (fun hHeld => ?_)
                    clear hK K
                    (try simp only [Act.put])
                    refine wpAnyH_ready (rs := [15]) (by kernel_rfl) (by simp) ?_
                    refine AllReadyH.cons rfl (fun K hK => ?_) AllReadyH.nil
                    refine step_put3 (x := pb) (b0 := hitb) (s1 := xb) (b2 := outb) rfl rfl _ _ rfl (by kernel_rfl) (by kernel_rfl) h_27.out.p5 ?_
                    intro w_28 h_28
                    have h_28 := hide h_28
                    refine hK.out _ _ (h_28.out.toKeep.cell cW.out) (fun hHeld => ?_)
                    clear hK K
                    (try simp only [Act.put])
                    refine wpAnyH_done (by kernel_rfl) ?_ _
                    go_wp2
                    go_meet
                    case rel => exact ⟨pa, pb, rfl, rfl, h_28.out.p5⟩
              · refine step_allocHolds rfl 14 rfl rfl h_0.out ?_
                intro pa w_29 h_29
                have h_29 := hide h_29.p4.p4.p4.p4
                refine hK.out _ _ (h_29.out.toKeep.cell cW.out) (fun hHeld => ?_)
                clear hK K
                (try simp only [Act.put, List.setIfInBounds_toArray])
                refine wpAnyH_ready (rs := [5, 13]) (by kernel_rfl) (by simp) ?_
                refine AllReadyH.cons rfl (fun K hK => ?_) (AllReadyH.cons rfl (fun K hK => ?_) AllReadyH.nil)
                · go_simp
                  go_at_call 17
                  (with_reducible refine (cRa.out _ _ h_29.out).mono ?_)
                  rintro r_30 w_30 ⟨rfl, h_30⟩
                  have h_30 := hide h_30
                  refine hK.out _ _ (h_30.out.toKeep.cell cW.out) (fun hHeld => ?_)
                  clear hK K
                  (try simp only [Act.put, List.setIfInBounds_toArray, List.set_cons_zero, List.set_cons_succ])
                  refine wpAnyH_ready (rs := [11, 13]) (by kernel_rfl) (by simp) ?_
                  refine AllReadyH.cons rfl (fun K hK => ?_) (AllReadyH.cons rfl (fun K hK => ?_) AllReadyH.nil)
                  · go_simp
                    go_at_call 17
                    (with_reducible refine (cRb.out _ _ h_30.out.p2.p3.p1).mono ?_)
                    rintro r_31 w_31 ⟨rfl, h_31⟩
                    have h_31 := hide h_31.p2.p3.p1
                    refine hK.out _ _ (h_31.out.toKeep.cell cW.out) (fun hHeld => ?_)
                    clear hK K
                    (try simp only [Act.put, List.setIfInBounds_toArray, List.set_cons_zero, List.set_cons_succ])
                    refine wpAnyH_ready (rs := [13]) (by kernel_rfl) (by simp) ?_
                    refine AllReadyH.cons rfl (fun K hK => ?_) AllReadyH.nil
                    refine step_allocHolds rfl 15 rfl rfl h_31.out ?_
                    intro pb w_32 h_32
                    have h_32 := hide h_32.p5.p5.p5.p5.p5
                    refine hK.out _ _ (h_32.out.toKeep.cell cW.out) (fun hHeld => ?_)
                    clear hK K
                    (try simp only [Act.put, List.setIfInBounds_toArray, List.set_cons_zero, List.set_cons_succ])
                    refine wpAnyH_ready (rs := [14]) (by kernel_rfl) (by simp) ?_
                    refine AllReadyH.cons rfl (fun K hK => ?_) AllReadyH.nil
                    refine step_put3 (x := pa) (b0 := hita) (s1 := xa) (b2 := outa) rfl rfl _ _ rfl (by kernel_rfl) (by kernel_rfl) h_32.out.p4 ?_
                    intro w_33 h_33
                    have h_33 := hide h_33.p4.p4.p4.p4
                    refine hK.out _ _ (h_33.out.toKeep.cell cW.out) (fun hHeld => ?_)
                    clear hK K
                    (try simp only [Act.put])
                    refine wpAnyH_ready (rs := [15]) (by kernel_rfl) (by simp) ?_
                    refine AllReadyH.cons rfl (fun K hK => ?_) AllReadyH.nil
                    refine step_put3 (x := pb) (b0 := hitb) (s1 := xb) (b2 := outb) rfl rfl _ _ rfl (by kernel_rfl) (by kernel_rfl) h_33.out.p5 ?_
                    intro w_34 h_34
                    have h_34 := hide h_34
                    refine hK.out _ _ (h_34.out.toKeep.cell cW.out) (fun hHeld => ?_)
                    clear hK K
                    (try simp only [Act.put])
                    refine wpAnyH_done (by kernel_rfl) ?_ _
                    go_wp2
                    go_meet
                    case rel => exact ⟨pa, pb, rfl, rfl, h_34.out.p5⟩
                  · refine step_allocHolds rfl 15 rfl rfl h_30.out ?_
                    intro pb w_35 h_35
                    have h_35 := hide h_35.p5.p5.p5.p5.p5
                    refine hK.out _ _ (h_35.out.toKeep.cell cW.out) (fun hHeld => ?_)
                    clear hK K
                    (try simp only [Act.put, List.setIfInBounds_toArray, List.set_cons_zero, List.set_cons_succ])
                    refine wpAnyH_ready (rs := [11]) (by kernel_rfl) (by simp) ?_
                    refine AllReadyH.cons rfl (fun K hK => ?_) AllReadyH.nil
                    go_simp
                    go_at_call 17
                    (with_reducible refine (cRb.out _ _ h_35.out.p2.p3.p1).mono ?_)
                    rintro r_36 w_36 ⟨rfl, h_36⟩
                    have h_36 := hide h_36.p2.p3.p1
                    refine hK.out _ _ (h_36.out.toKeep.cell cW.out) (fun hHeld => ?_)
                    clear hK K
                    (try simp only [Act.put, List.setIfInBounds_toArray, List.set_cons_zero, List.set_cons_succ])
                    refine wpAnyH_ready (rs := [14]) (by kernel_rfl) (by simp) ?_
                    refine AllReadyH.cons rfl (fun K hK => ?_) AllReadyH.nil
                    refine step_put3 (x := pa) (b0 := hita) (s1 := xa) (b2 := outa) rfl rfl _ _ rfl (by kernel_rfl) (by kernel_rfl) h_36.out.p4 ?_
                    intro w_37 h_37
                    have h_37 := hide h_37.p4.p4.p4.p4
                    refine hK.out _ _ (h_37.out.toKeep.cell cW.out) (fun hHeld => ?_)
                    clear hK K
                    (try simp only [Act.put])
                    refine wpAnyH_ready (rs := [15]) (by kernel_rfl) (by simp) ?_
                    refine AllReadyH.cons rfl (fun K hK => ?_) AllReadyH.nil
                    refine step_put3 (x := pb) (b0 := hitb) (s1 := xb) (b2 := outb) rfl rfl _ _ rfl (by kernel_rfl) (by kernel_rfl) h_37.out.p5 ?_
                    intro w_38 h_38
                    have h_38 := hide h_38
                    refine hK.out _ _ (h_38.out.toKeep.cell cW.out) (fun hHeld => ?_)
                    clear hK K
                    (try simp only [Act.put])
                    refine wpAnyH_done (by kernel_rfl) ?_ _
                    go_wp2
                    go_meet
                    case rel => exact ⟨pa, pb, rfl, rfl, h_38.out.p5⟩
                · refine step_allocHolds rfl 15 rfl rfl h_29.out ?_
                  intro pb w_39 h_39
                  have h_39 := hide h_39.p5.p5.p5.p5.p5
                  refine hK.out _ _ (h_39.out.toKeep.cell cW.out) (fun hHeld => ?_)
                  clear hK K
                  (try simp only [Act.put])
                  refine wpAnyH_ready (rs := [5]) (by kernel_rfl) (by simp) ?_
                  refine AllReadyH.cons rfl (fun K hK => ?_) AllReadyH.nil
                  go_simp
                  go_at_call 17
                  (with_reducible refine (cRa.out _ _ h_39.out).mono ?_)
                  rintro r_40 w_40 ⟨rfl, h_40⟩
                  have h_40 := hide h_40
                  refine hK.out _ _ (h_40.out.toKeep.cell cW.out) (fun hHeld => ?_)
                  clear hK K
                  (try simp only [Act.put, List.setIfInBounds_toArray, List.set_cons_zero, List.set_cons_succ])
                  refine wpAnyH_ready (rs := [11]) (by kernel_rfl) (by simp) ?_
                  refine AllReadyH.cons rfl (fun K hK => ?_) AllReadyH.nil
                  go_simp
                  go_at_call 17
                  (with_reducible refine (cRb.out _ _ h_40.out.p2.p3.p1).mono ?_)
                  rintro r_41 w_41 ⟨rfl, h_41⟩
                  have h_41 := hide h_41.p2.p3.p1
                  refine hK.out _ _ (h_41.out.toKeep.cell cW.out) (fun hHeld => ?_)
                  clear hK K
                  (try simp only [Act.put, List.setIfInBounds_toArray, List.set_cons_zero, List.set_cons_succ])
                  refine wpAnyH_ready (rs := [14]) (by kernel_rfl) (by simp) ?_
                  refine AllReadyH.cons rfl (fun K hK => ?_) AllReadyH.nil
                  refine step_put3 (x := pa) (b0 := hita) (s1 := xa) (b2 := outa) rfl rfl _ _ rfl (by kernel_rfl) (by kernel_rfl) h_41.out.p4 ?_
                  intro w_42 h_42
                  have h_42 := hide h_42.p4.p4.p4.p4
                  refine hK.out _ _ (h_42.out.toKeep.cell cW.out) (fun hHeld => ?_)
                  clear hK K
                  (try simp only [Act.put])
                  refine wpAnyH_ready (rs := [15]) (by kernel_rfl) (by simp) ?_
                  refine AllReadyH.cons rfl (fun K hK => ?_) AllReadyH.nil
                  refine step_put3 (x := pb) (b0 := hitb) (s1 := xb) (b2 := outb) rfl rfl _ _ rfl (by kernel_rfl) (by kernel_rfl) h_42.out.p5 ?_
                  intro w_43 h_43
                  have h_43 := hide h_43
                  refine hK.out _ _ (h_43.out.toKeep.cell cW.out) (fun hHeld => ?_)
                  clear hK K
                  (try simp only [Act.put])
                  refine wpAnyH_done (by kernel_rfl) ?_ _
                  go_wp2
                  go_meet
                  case rel => exact ⟨pa, pb, rfl, rfl, h_43.out.p5⟩
              · refine step_allocHolds rfl 15 rfl rfl h_0.out ?_
                intro pb w_44 h_44
                have h_44 := hide h_44.p4.p4.p4.p4
                refine hK.out _ _ (h_44.out.toKeep.cell cW.out) (fun hHeld => ?_)
                clear hK K
                (try simp only [Act.put, List.setIfInBounds_toArray])
                refine wpAnyH_ready (rs := [5, 12]) (by kernel_rfl) (by simp) ?_
                refine AllReadyH.cons rfl (fun K hK => ?_) (AllReadyH.cons rfl (fun K hK => ?_) AllReadyH.nil)
                · go_simp
                  go_at_call 17
                  (with_reducible refine (cRa.out _ _ h_44.out).mono ?_)
                  rintro r_45 w_45 ⟨rfl, h_45⟩
                  have h_45 := hide h_45
                  refine hK.out _ _ (h_45.out.toKeep.cell cW.out) (fun hHeld => ?_)
                  clear hK K
                  (try simp only [Act.put, List.setIfInBounds_toArray, List.set_cons_zero, List.set_cons_succ])
                  refine wpAnyH_ready (rs := [11, 12]) (by kernel_rfl) (by simp) ?_
                  refine AllReadyH.cons rfl (fun K hK => ?_) (AllReadyH.cons rfl (fun K hK => ?_) AllReadyH.nil)
                  · go_simp
                    go_at_call 17
                    (with_reducible refine (cRb.out _ _ h_45.out.p2.p3.p1).mono ?_)
                    rintro r_46 w_46 ⟨rfl, h_46⟩
                    have h_46 := hide h_46.p2.p3.p1
                    refine hK.out _ _ (h_46.out.toKeep.cell cW.out) (fun hHeld => ?_)
                    clear hK K
                    (try simp only [Act.put, List.setIfInBounds_toArray, List.set_cons_zero, List.set_cons_succ])
                    refine wpAnyH_ready (rs := [12]) (by kernel_rfl) (by simp) ?_
                    refine AllReadyH.cons rfl (fun K hK => ?_) AllReadyH.nil
                    refine step_allocHolds rfl 14 rfl rfl h_46.out ?_
                    intro pa w_47 h_47
                    have h_47 := hide h_47.p4.p4.p4.p4
                    refine hK.out _ _ (h_47.out.toKeep.cell cW.out) (fun hHeld => ?_)
                    clear hK K
                    (try simp only [Act.put, List.setIfInBounds_toArray, List.set_cons_zero, List.set_cons_succ])
                    refine wpAnyH_ready (rs := [14]) (by kernel_rfl) (by simp) ?_
                    refine AllReadyH.cons rfl (fun K hK => ?_) AllReadyH.nil
                    refine step_put3 (x := pa) (b0 := hita) (s1 := xa) (b2 := outa) rfl rfl _ _ rfl (by kernel_rfl) (by kernel_rfl) h_47.out.p4 ?_
                    intro w_48 h_48
                    have h_48 := hide h_48.p4.p4.p4.p4
                    refine hK.out _ _ (h_48.out.toKeep.cell cW.out) (fun hHeld => ?_)
                    clear hK K
                    (try simp only [Act.put])
                    refine wpAnyH_ready (rs := [15]) (by kernel_rfl) (by simp) ?_
                    refine AllReadyH.cons rfl (fun K hK => ?_) AllReadyH.nil
                    refine step_put3 (x := pb) (b0 := hitb) (s1 := xb) (b2 := outb) rfl rfl _ _ rfl (by kernel_rfl) (by kernel_rfl) h_48.out.p5 ?_
                    intro w_49 h_49
                    have h_49 := hide h_49
                    refine hK.out _ _ (h_49.out.toKeep.cell cW.out) (fun hHeld => ?_)
                    clear hK K
                    (try simp only [Act.put])
                    refine wpAnyH_done (by kernel_rfl) ?_ _
                    go_wp2
                    go_meet
                    case rel => exact ⟨pa, pb, rfl, rfl, h_49.out.p5⟩
                  · refine step_allocHolds rfl 14 rfl rfl h_45.out ?_
                    intro pa w_50 h_50
                    have h_50 := hide h_50.p4.p4.p4.p4
                    refine hK.out _ _ (h_50.out.toKeep.cell cW.out) (fun hHeld => ?_)
                    clear hK K
                    (try simp only [Act.put, List.setIfInBounds_toArray, List.set_cons_zero, List.set_cons_succ])
                    refine wpAnyH_ready (rs := [11]) (by kernel_rfl) (by simp) ?_
                    refine AllReadyH.cons rfl (fun K hK => ?_) AllReadyH.nil
                    go_simp
                    go_at_call 17
                    (with_reducible refine (cRb.out _ _ h_50.out.p2.p3.p1).mono ?_)
                    rintro r_51 w_51 ⟨rfl, h_51⟩
                    have h_51 := hide h_51.p2.p3.p1
                    refine hK.out _ _ (h_51.out.toKeep.cell cW.out) (fun hHeld => ?_)
                    clear hK K
                    (try simp only [Act.put, List.setIfInBounds_toArray, List.set_cons_zero, List.set_cons_succ])
                    refine wpAnyH_ready (rs := [14]) (by kernel_rfl) (by simp) ?_
                    refine AllReadyH.cons rfl (fun K hK => ?_) AllReadyH.nil
                    refine step_put3 (x := pa) (b0 := hita) (s1 := xa) (b2 := outa) rfl rfl _ _ rfl (by kernel_rfl) (by kernel_rfl) h_51.out.p4 ?_
                    intro w_52 h_52
                    have h_52 := hide h_52.p4.p4.p4.p4
                    refine hK.out _ _ (h_52.out.toKeep.cell cW.out) (fun hHeld => ?_)
                    clear hK K
                    (try simp only [Act.put])
                    refine wpAnyH_ready (rs := [15]) (by kernel_rfl) (by simp) ?_
                    refine AllReadyH.cons rfl (fun K hK => ?_) AllReadyH.nil
                    refine step_put3 (x := pb) (b0 := hitb) (s1 := xb) (b2 := outb) rfl rfl _ _ rfl (by kernel_rfl) (by kernel_rfl) h_52.out.p5 ?_
                    intro w_53 h_53
                    have h_53 := hide h_53
                    refine hK.out _ _ (h_53.out.toKeep.cell cW.out) (fun hHeld => ?_)
                    clear hK K
                    (try simp only [Act.put])
                    refine wpAnyH_done (by kernel_rfl) ?_ _
                    go_wp2
                    go_meet
                    case rel => exact ⟨pa, pb, rfl, rfl, h_53.out.p5⟩
                · refine step_allocHolds rfl 14 rfl rfl h_44.out ?_
                  intro pa w_54 h_54
                  have h_54 := hide h_54.p4.p4.p4.p4
                  refine hK.out _ _ (h_54.out.toKeep.cell cW.out) (fun hHeld => ?_)
                  clear hK K
                  (try simp only [Act.put])
                  refine wpAnyH_ready (rs := [5]) (by kernel_rfl) (by simp) ?_
                  refine AllReadyH.cons rfl (fun K hK => ?_) AllReadyH.nil
                  go_simp
                  go_at_call 17
                  (with_reducible refine (cRa.out _ _ h_54.out).mono ?_)
                  rintro r_55 w_55 ⟨rfl, h_55⟩
                  have h_55 := hide h_55
                  refine hK.out _ _ (h_55.out.toKeep.cell cW.out) (fun hHeld => ?_)
                  clear hK K
                  (try simp only [Act.put, List.setIfInBounds_toArray, List.set_cons_zero, List.set_cons_succ])
                  refine wpAnyH_ready (rs := [11]) (by kernel_rfl) (by simp) ?_
                  refine AllReadyH.cons rfl (fun K hK => ?_) AllReadyH.nil
                  go_simp
                  go_at_call 17
                  (with_reducible refine (cRb.out _ _ h_55.out.p2.p3.p1).mono ?_)
                  rintro r_56 w_56 ⟨rfl, h_56⟩
                  have h_56 := hide h_56.p2.p3.p1
                  refine hK.out _ _ (h_56.out.toKeep.cell cW.out) (fun hHeld => ?_)
                  clear hK K
                  (try simp only [Act.put, List.setIfInBounds_toArray, List.set_cons_zero, List.set_cons_succ])
                  refine wpAnyH_ready (rs := [14]) (by kernel_rfl) (by simp) ?_
                  refine AllReadyH.cons rfl (fun K hK => ?_) AllReadyH.nil
                  refine step_put3 (x := pa) (b0 := hita) (s1 := xa) (b2 := outa) rfl rfl _ _ rfl (by kernel_rfl) (by kernel_rfl) h_56.out.p4 ?_
                  intro w_57 h_57
                  have h_57 := hide h_57.p4.p4.p4.p4
                  refine hK.out _ _ (h_57.out.toKeep.cell cW.out) (fun hHeld => ?_)
                  clear hK K
                  (try simp only [Act.put])
                  refine wpAnyH_ready (rs := [15]) (by kernel_rfl) (by simp) ?_
                  refine AllReadyH.cons rfl (fun K hK => ?_) AllReadyH.nil
                  refine step_put3 (x := pb) (b0 := hitb) (s1 := xb) (b2 := outb) rfl rfl _ _ rfl (by kernel_rfl) (by kernel_rfl) h_57.out.p5 ?_
                  intro w_58 h_58
                  have h_58 := hide h_58
                  refine hK.out _ _ (h_58.out.toKeep.cell cW.out) (fun hHeld => ?_)
                  clear hK K
                  (try simp only [Act.put])
                  refine wpAnyH_done (by kernel_rfl) ?_ _
                  go_wp2
                  go_meet
                  case rel => exact ⟨pa, pb, rfl, rfl, h_58.out.p5⟩
            case rest =>
              obtain ⟨p, q, rfl, rfl, hc⟩ := hcut
              have hc := hide hc.p5.p5.p6.p8.p5.p8.p9.p7
              clear h5 S0 cRa cRb cKa cKb
              have hlmK := lKa
              have htmK := lKb
              go_upto_block 4 with fail
              go_cut [16] (fun _ wx => Holds W wx (pts p (.cells #[.bool hita, .string xa, .bool outa] 36) :: OwnMap bl l :: OwnStrs (.slice a4 Ka c4) ya :: pts q (.cells #[.bool hitb, .string xb, .bool outb] 36) :: OwnMap bt t :: OwnStrs (.slice a5 Kb c5) yb :: IsLn b tb sb2 :: IsTape tb sb2.tape :: IsLn a ta sa2 :: IsTape ta sa2.tape :: []))
              case first =>
                go_wp2
                go_loopg [16] (Ka) (fun c x wr => ∃ k, Hide (Ka - k = c) ∧ k ≤ Ka ∧ x = .int .i64 (k : Nat) ∧ Holds W wr (pts p (.cells #[.bool hita, .string xa, .bool outa] 36) :: OwnMap bl l :: OwnStrs (.slice a4 Ka c4) ya :: pts q (.cells #[.bool hitb, .string xb, .bool outb] 36) :: OwnMap bt t :: OwnStrs (.slice a5 Kb c5) yb :: IsLn b tb sb2 :: IsTape tb sb2.tape :: IsLn a ta sa2 :: IsTape ta sa2.tape :: []))
                case atStart => exact ⟨0, ⟨rfl⟩, Nat.zero_le _, rfl, hc.out⟩
                case round =>
                  clear hc
                  obtain ⟨k, hck, hkn, rfl, hh⟩ := hrel
                  have z1 : wr.cell? ⟨p, 1, none⟩ = some (.string xa) := Holds.cell hh rfl
                  have z2 : wr.cell? ⟨p, 2, none⟩ = some (.bool outa) := Holds.cell hh rfl
                  have hlb := hlmK.out
                  by_cases hkl : k < Ka
                  · have hkl' : (k : Int) < Ka := by omega
                    have hkd : decide ((k : Int) < Ka) = true := decide_eq_true hkl'
                    have e2 : IntKind.i64.wrap ((k : Int) + 1) = ((k + 1 : Nat) : Int) := by rw [IntWalk.i64_in _ (by omega)]; omega
                    cases outa with
                    | false =>
                      have hh := hide hh
                      go_wp2
                      go_meet
                      case rel => exact hh.out
                    | true =>
                      obtain ⟨y, hy⟩ : ∃ x, ya[k]? = some x := ⟨_, List.getElem?_eq_getElem (by rw [hKa.out]; exact hkl)⟩
                      obtain ⟨bo, oo, hao, cy⟩ := RowAt.strCell (Holds.strsAt (Holds.p2 hh)) hy
                      subst hao
                      have hle := rA2.out rfl y (List.mem_of_getElem? hy)
                      have L1 := fun m => (Holds.p1 (hh.drewN (n := m))).lookup Tryz.underlying42 Tryz.underlying9 zeroI y
                      have L2 := fun m => (Holds.p1 (hh.drewN (n := m))).lookup Tryz.underlying42 Tryz.underlying9 zeroI xa
                      simp only [hlm.out] at L1 L2
                      obtain ⟨ly, hly⟩ : ∃ x, last y = x := ⟨_, rfl⟩
                      obtain ⟨lx, hlx⟩ : ∃ x, last xa = x := ⟨_, rfl⟩
                      rw [hly] at L1 hle
                      rw [hlx] at L2 hle
                      have f1 : decide ((ly : Int) < (lx : Int)) = false := decide_eq_false (by omega)
                      have hh := hide hh
                      clear hly hlx hy
                      go_wp2
                      go_quiet (fail)
                      go_wp2
                      go_roundg (Ka - (k + 1))
                      case measure => rw [← hck.out]; omega
                      case rel => exact ⟨k + 1, ⟨rfl⟩, by omega, rfl, hh.out.drewN⟩
                  · obtain rfl : k = Ka := by omega
                    have hkl' : ¬ (k : Int) < k := by omega
                    have hh := hide hh
                    go_wp2
                    go_meet
                    case rel => exact hh.out
              case rest =>
              replace hc := hide hcut
              clear hcut
              have hc := hide hc.out.p5.p5.p5
              go_upto_block 6 with fail
              go_cut [17] (fun _ wx => Holds W wx (pts q (.cells #[.bool hitb, .string xb, .bool outb] 36) :: OwnMap bt t :: OwnStrs (.slice a5 Kb c5) yb :: pts p (.cells #[.bool hita, .string xa, .bool outa] 36) :: OwnMap bl l :: OwnStrs (.slice a4 Ka c4) ya :: IsLn b tb sb2 :: IsTape tb sb2.tape :: IsLn a ta sa2 :: IsTape ta sa2.tape :: []))
              case first =>
                go_wp2
                go_loopg [17] (Kb) (fun c x wr => ∃ k, Hide (Kb - k = c) ∧ k ≤ Kb ∧ x = .int .i64 (k : Nat) ∧ Holds W wr (pts q (.cells #[.bool hitb, .string xb, .bool outb] 36) :: OwnMap bt t :: OwnStrs (.slice a5 Kb c5) yb :: pts p (.cells #[.bool hita, .string xa, .bool outa] 36) :: OwnMap bl l :: OwnStrs (.slice a4 Ka c4) ya :: IsLn b tb sb2 :: IsTape tb sb2.tape :: IsLn a ta sa2 :: IsTape ta sa2.tape :: []))
                case atStart => exact ⟨0, ⟨rfl⟩, Nat.zero_le _, rfl, hc.out⟩
                case round =>
                  clear hc
                  obtain ⟨k, hck, hkn, rfl, hh⟩ := hrel
                  have z1 : wr.cell? ⟨q, 1, none⟩ = some (.string xb) := Holds.cell hh rfl
                  have z2 : wr.cell? ⟨q, 2, none⟩ = some (.bool outb) := Holds.cell hh rfl
                  have hlb := htmK.out
                  by_cases hkl : k < Kb
                  · have hkl' : (k : Int) < Kb := by omega
                    have hkd : decide ((k : Int) < Kb) = true := decide_eq_true hkl'
                    have e2 : IntKind.i64.wrap ((k : Int) + 1) = ((k + 1 : Nat) : Int) := by rw [IntWalk.i64_in _ (by omega)]; omega
                    cases outb with
                    | false =>
                      have hh := hide hh
                      go_wp2
                      go_meet
                      case rel => exact hh.out
                    | true =>
                      obtain ⟨y, hy⟩ : ∃ x, yb[k]? = some x := ⟨_, List.getElem?_eq_getElem (by rw [hKb.out]; exact hkl)⟩
                      obtain ⟨bo, oo, hao, cy⟩ := RowAt.strCell (Holds.strsAt (Holds.p2 hh)) hy
                      subst hao
                      have hle := (rB2.out rfl).2.2 y (List.mem_of_getElem? hy)
                      have L1 := fun m => (Holds.p1 (hh.drewN (n := m))).lookup Tryz.underlying42 Tryz.underlying9 zeroI y
                      have L2 := fun m => (Holds.p1 (hh.drewN (n := m))).lookup Tryz.underlying42 Tryz.underlying9 zeroI xb
                      simp only [htm.out] at L1 L2
                      obtain ⟨ly, hly⟩ : ∃ x, times y = x := ⟨_, rfl⟩
                      obtain ⟨lx, hlx⟩ : ∃ x, times xb = x := ⟨_, rfl⟩
                      rw [hly] at L1 hle
                      rw [hlx] at L2 hle
                      have f1 : decide ((ly : Int) < (lx : Int)) = false := decide_eq_false (by omega)
                      have hh := hide hh
                      clear hly hlx hy
                      go_wp2
                      go_quiet (fail)
                      go_wp2
                      go_roundg (Kb - (k + 1))
                      case measure => rw [← hck.out]; omega
                      case rel => exact ⟨k + 1, ⟨rfl⟩, by omega, rfl, hh.out.drewN⟩
                  · obtain rfl : k = Kb := by omega
                    have hkl' : ¬ (k : Int) < k := by omega
                    have hh := hide hh
                    go_wp2
                    go_meet
                    case rel => exact hh.out
              case rest =>
              replace hc := hide hcut
              clear hcut
              have cx := hc.out.toKeep.cell cW.out
              obtain ⟨i1, hi1⟩ : ∃ x : Nat, i + 1 = x := ⟨_, rfl⟩
              have hi1n : i1 ≤ n := by omega
              rw [hi1] at e1
              obtain ⟨tk, htk⟩ : ∃ x, times key = x := ⟨_, rfl⟩
              obtain ⟨tk1, htk1⟩ : ∃ x : Nat, tk + 1 = x := ⟨_, rfl⟩
              have hb := htl.out key
              rw [htk] at hb
              have e3 : IntKind.i64.wrap ((tk : Int) + 1) = (tk1 : Int) := by rw [IntWalk.i64_in _ (by omega)]; omega
              have hlm2 : Hide (∀ k, (Assoc.get (Assoc.put l key (.int .i64 (i1 : Nat))) k).getD (.int .i64 0) = .int .i64 ((if k = key then i + 1 else last k : Nat) : Int)) := ⟨fun k => by
                rw [as_get_put]
                by_cases e : key = k
                · rw [if_pos e, if_pos e.symm, hi1]; rfl
                · rw [if_neg e, if_neg (show ¬ k = key from fun h => e h.symm)]; exact hlm.out k⟩
              replace hi1 := hide hi1
              replace htk := hide htk
              replace htk1 := hide htk1
              replace hi1n := hide hi1n
              clear hb hlmK htmK
              cases outb with
              | false =>
                have hB2 := hide (rB1.out rfl (fun c => if c = key then times key + 1 else times c) (fun _ => rfl))
                go_wp2_with (first
                  | (at_mapUpdate; refine wpList_update_map rfl _ _ _ rfl Tryz.underlying42 Tryz.underlying9 (Holds.p4 hc.out) key (.int .i64 (i1 : Nat)) rfl rfl rfl ?_; intro w9 h9; have y2 := Holds.cell (off := 2) (v := .bool false) (Holds.p1 h9) rfl; have cx9 := h9.toKeep.cell cW.out; have L3 := (Holds.p2 h9).lookup Tryz.underlying42 Tryz.underlying9 zeroI key; rw [htm.out, htk.out] at L3; have h9 := hide h9)
                  | (at_mapUpdate; refine wpList_update_map rfl _ _ _ rfl Tryz.underlying42 Tryz.underlying9 (Holds.p2 h9.out) key (.int .i64 (tk1 : Nat)) rfl rfl rfl ?_; intro w11 h11; have h11 := hide h11))
                go_roundg (n - i1)
                case measure => have := hci.out; have := hi1.out; omega
                case rel =>
                  refine ⟨i + 1, j, sa2, sb2, _, _, _, _, ⟨by rw [hi1.out]⟩, by have := hi1.out; have := hi1n.out; omega, by rw [hi1.out], rA1, hB2, hlm2, ⟨fun k => ?_⟩, ⟨fun k => ?_⟩, h11.out.p2.drop.p2.drop.p2.drop.p2.drop⟩
                  · rw [as_get_put]
                    by_cases e : key = k
                    · rw [if_pos e]
                      show Value.int .i64 (tk1 : Nat) = .int .i64 ((if k = key then times key + 1 else times k : Nat) : Int)
                      rw [if_pos e.symm, htk.out, htk1.out]
                    · rw [if_neg e]
                      show _ = Value.int .i64 ((if k = key then times key + 1 else times k : Nat) : Int)
                      rw [if_neg (show ¬ k = key from fun h => e h.symm)]
                      exact htm.out k
                  · show (if k = key then times key + 1 else times k) ≤ i + 1
                    have h1 := htl.out k
                    have h2 := htl.out key
                    split <;> omega
              | true =>
                obtain ⟨rB3, hxk, _⟩ := rB2.out rfl
                have hB2 := hide (rB3 (fun c => if c = key then times key + 1 else if c = xb then 0 else times c) (fun _ => rfl))
                replace hxk := hide hxk
                clear rB3
                go_wp2_with (first
                  | (at_mapUpdate; refine wpList_update_map rfl _ _ _ rfl Tryz.underlying42 Tryz.underlying9 (Holds.p4 hc.out) key (.int .i64 (i1 : Nat)) rfl rfl rfl ?_; intro w9 h9; have y2 := Holds.cell (off := 2) (v := .bool true) (Holds.p1 h9) rfl; have y1 := Holds.cell (off := 1) (v := .string xb) (Holds.p1 h9) rfl; have h9 := hide h9)
                  | (at_mapUpdate; refine wpList_update_map rfl _ _ _ rfl Tryz.underlying42 Tryz.underlying9 (Holds.p2 h9.out) xb (.int .i64 0) rfl rfl rfl ?_; intro w10 h10; have cx10 := h10.toKeep.cell cW.out; have L3 := h10.lookup Tryz.underlying42 Tryz.underlying9 zeroI key; rw [as_get_put, if_neg hxk.out, htm.out, htk.out] at L3; have h10 := hide h10)
                  | (at_mapUpdate; refine wpList_update_map rfl _ _ _ rfl Tryz.underlying42 Tryz.underlying9 h10.out key (.int .i64 (tk1 : Nat)) rfl rfl rfl ?_; intro w11 h11; have h11 := hide h11))
                go_roundg (n - i1)
                case measure => have := hci.out; have := hi1.out; omega
                case rel =>
                  refine ⟨i + 1, j + 1, sa2, sb2, _, _, _, _, ⟨by rw [hi1.out]⟩, by have := hi1.out; have := hi1n.out; omega, by rw [hi1.out], rA1, hB2, hlm2, ⟨fun k => ?_⟩, ⟨fun k => ?_⟩, h11.out.p2.drop.p2.drop.p2.drop.p2.drop⟩
                  · rw [as_get_put]
                    by_cases e : key = k
                    · rw [if_pos e]
                      show Value.int .i64 (tk1 : Nat) = .int .i64 ((if k = key then times key + 1 else if k = xb then 0 else times k : Nat) : Int)
                      rw [if_pos e.symm, htk.out, htk1.out]
                    · rw [if_neg e, as_get_put]
                      show _ = Value.int .i64 ((if k = key then times key + 1 else if k = xb then 0 else times k : Nat) : Int)
                      rw [if_neg (show ¬ k = key from fun h => e h.symm)]
                      by_cases e2 : xb = k
                      · rw [if_pos e2, if_pos e2.symm]; rfl
                      · rw [if_neg e2, if_neg (show ¬ k = xb from fun h => e2 h.symm)]
                        exact htm.out k
                  · show (if k = key then times key + 1 else if k = xb then 0 else times k) ≤ i + 1
                    have h1 := htl.out k
                    have h2 := htl.out key
                    split
                    · omega
                    · split <;> omega
        · obtain rfl : i = n := by omega
          have hlt' : ¬ (i : Int) < i := by omega
          go_wp2
          go_ret
          exact ⟨rfl, h3.out.nil⟩
end Go.Proofs.YteledfiechbhgaaGreatDoor
