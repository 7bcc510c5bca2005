import Derived.Test.YtheldkljmefbaaaDoorG3
import Derived.Test.YtheldkljmefbaaaDoorG2
import Derived.Test.YtheldkljmefbaaaDoorProg
set_option linter.unusedSimpArgs false
set_option linter.unusedVariables false
set_option linter.unusedSectionVars false
namespace Go.Sl
namespace Pu
open Go.Sl Go.Sl.M
theorem gheads_eq (pu : List (BitVec 8)) (l : List Sgd) (fo : List T_gossip_Fork) (li : List T_gossip_link) (hn : l.length ≤ 1000) (hS : ∀ s ∈ l, s.2.length ≤ 2000000) : gossip_Pool_Heads (pu, l, fo, li) = some l := by
  unfold gossip_Pool_Heads
  have h1 := mapscan (f := fun (s : Int × List Sgd) => gossip_Pool_Heads_L1 (pu, l, fo, li) s.1 s.2) l id (by omega) (fun i hi acc ha => by
    simp only [gossip_Pool_Heads_L1]
    have hv := hS _ (List.getElem_mem hi)
    rw [if_t (by simp; omega), bind_some' (lget_at rfl hi), bind_some' (gcopied_eq _ hv), if_t (by simp [AP]; omega), w64_eq (by omega)]; rfl) (fun acc => by
    simp only [gossip_Pool_Heads_L1]
    rw [if_f (by simp)])
  rw [bind_some' h1]; simp
theorem gforks_eq (pu : List (BitVec 8)) (l : List Sgd) (fo : List T_gossip_Fork) (li : List T_gossip_link) (hn : fo.length ≤ 1000) (hS : ∀ f ∈ fo, f.1.2.length ≤ 2000000 ∧ f.2.2.length ≤ 2000000) : gossip_Pool_Forks (pu, l, fo, li) = some fo := by
  unfold gossip_Pool_Forks
  have h1 := mapscan (f := fun (s : Int × List T_gossip_Fork) => gossip_Pool_Forks_L1 (pu, l, fo, li) s.1 s.2) fo id (by omega) (fun i hi acc ha => by
    simp only [gossip_Pool_Forks_L1]
    have hv := hS _ (List.getElem_mem hi)
    rw [if_t (by simp; omega), bind_some' (lget_at rfl hi), bind_some' (gcopied_eq _ hv.1), bind_some' (gcopied_eq _ hv.2), Option.bind_some, if_t (by simp [AP]; omega), w64_eq (by omega)]; rfl) (fun acc => by
    simp only [gossip_Pool_Forks_L1]
    rw [if_f (by simp)])
  rw [bind_some' h1]; simp
theorem gnew_eq (pu : List (BitVec 8)) (h : pu.length ≤ 2000000) : gossip_New pu = some (pu, [], [], []) := by
  unfold gossip_New
  have hcl : slices_Clone_byte_byte pu = some pu := by unfold slices_Clone_byte_byte; rw [if_t (by simp [AP]; omega)]; simp
  rw [bind_some' hcl]
  try rfl
end Pu
end Go.Sl
namespace Go.Sl
namespace Pu
open Go.Sl Go.Sl.M
theorem pub27_len : pub27.length ≤ 2000000 := by
  have : pub27.length = 60 := hpub_len 1 3 seed27
  omega
def sg27 (h : T_head_Head) : Sgd := (h, sig27 h)
theorem parts_nil (e : Int) : Parts27 [] e 0 := ⟨Nat.le_refl _, fun i h => by simp at h, fun i h => by simp at h⟩
theorem parts_one (s : Sgd) : Parts27 [s] s.1.1 0 := ⟨by simp, fun i h hi => by omega, fun i h _ => by
  have : i = 0 := by simp at h; omega
  subst this; exact Int.le_refl _⟩
theorem small_nil : Small27 [] := ⟨by simp, fun s h => by cases h⟩
theorem small_one (s : Sgd) (h : 0 ≤ s.1.1 ∧ s.1.1 ≤ 2147483647) : Small27 [s] := ⟨by simp, fun x hx => by rw [List.mem_singleton.1 hx]; exact h⟩
def h327 : T_head_Head := (3, 1, Vector.replicate 32 0#8, Vector.replicate 32 0#8)
theorem linked_self (pu : List (BitVec 8)) (s : Sgd) (h : 0 ≤ s.1.1 ∧ s.1.1 ≤ 2147483647) : gossip_Pool_Linked (some (pu, [s], [], [])) s.1.1 s.1.1 = some true := by
  unfold gossip_Pool_Linked
  have hp := gplace_eq pu [s] [] [] s.1.1 0 (small_one s h) h (parts_one s)
  have hy : ∃ x ∈ [s][0]?, x.1.1 = s.1.1 := ⟨s, rfl, rfl⟩
  rw [decide_eq_true hy] at hp
  rw [if_f (by simp), bind_some' hp, bind_some' hp]
  dsimp only
  rw [if_f (by simp), Option.bind_some, if_f (by simp)]
  have h1 : gossip_Pool_Linked_L1 s.1.1 (some (pu, [s], [], [])) 0 [s.1.1] = some (.ret true) := by
    unfold gossip_Pool_Linked_L1
    rw [if_t (by simp), bind_some' (show lget [s.1.1] 0 = some s.1.1 from rfl), if_t (by simp)]
  have h2 := loopO_ret (f := fun (s1 : Int × List Int) => gossip_Pool_Linked_L1 s.1.1 (some (pu, [s], [], [])) s1.1 s1.2) (n := FU - 1) (s := ((0 : Int), [s.1.1])) h1
  rw [show FU - 1 + 1 = FU from rfl] at h2
  rw [bind_some' h2]
theorem awake27 : rolodexlaw27_awake = some true := by
  unfold rolodexlaw27_awake
  obtain ⟨s, hs, hI⟩ := signer27
  have hh : isHd h327 := by decide
  obtain ⟨s', hs2, hI2⟩ := signed27 hI h327 hh
  have hpub : hss_Signer_Public s = some pub27 := hpublic_eq ih1 hI
  have hsl := sig27_len h327
  have hput := gput_new pub27 [] [] [] (sg27 h327) 0 (right27 h327 hh) small_nil (show 0 ≤ (3 : Int) ∧ (3 : Int) ≤ 2147483647 by omega) (parts_nil _) (by simp) (by simp) hsl
  rw [bind_some' hs, show ((s.1, s.2.1, s.2.2.1, s.2.2.2.1, s.2.2.2.2.1, s.2.2.2.2.2) : Sg) = s from rfl, bind_some' hpub, bind_some' (gnew_eq pub27 pub27_len), Option.bind_some, bind_some' (show rolodexlaw27_Signed s ((3 : Int), (1 : Int), Vector.replicate 32 0#8, Vector.replicate 32 0#8) = _ from hs2)]
  dsimp only
  rw [bind_some' (show gossip_Pool_Put (pub27, [], [], []) (h327, sig27 h327) = _ from hput)]
  dsimp only
  rw [if_t (by simp)]
  have hhd := gheads_eq pub27 [sg27 h327] [] [] (by simp) (fun x hx => by rw [List.mem_singleton.1 hx]; exact hsl)
  have hlk : gossip_Pool_Linked (some (pub27, [sg27 h327], [], [])) (3 : Int) (3 : Int) = some true := linked_self pub27 (sg27 h327) (show 0 ≤ (3 : Int) ∧ (3 : Int) ≤ 2147483647 by omega)
  have e1 : ([] : List Sgd).take 0 ++ [sg27 h327] ++ ([] : List Sgd).drop 0 = [sg27 h327] := rfl
  rw [e1, bind_some' hhd, Option.bind_some, if_t (by simp), bind_some' hlk, Option.bind_some]
end Pu
end Go.Sl
namespace Go.Sl
namespace Pu
open Go.Sl Go.Sl.M
theorem gossipForks (a b : T_rolodexref17_Head) (key : List (BitVec 8)) : rolodexlaw27_GossipForks a b key = some true := by
  unfold rolodexlaw27_GossipForks
  rw [bind_some' awake27, orE, Option.bind_some, bind_some' (ris_eq a), orE, Option.bind_some]
  obtain ⟨b1, hb1⟩ : ∃ b1 : T_rolodexref17_Head, b1 = (a.1, b.2.1, b.2.2.1, b.2.2.2) := ⟨_, rfl⟩
  rw [← hb1, bind_some' (ris_eq b1), orE, Option.bind_some]
  by_cases hc : key.length ≤ 100 ∧ isHd a ∧ isHd b1
  · obtain ⟨hk, ha, hb⟩ := hc
    have hb0 : b1.1 = a.1 := by rw [hb1]
    rw [if_f (by simp [ha, hb]; omega)]
    obtain ⟨s, hs, hI⟩ := signer27
    obtain ⟨s2, hs2, hI2⟩ := signed27 hI a ha
    obtain ⟨s3, hs3, hI3⟩ := signed27 hI2 b1 hb
    have hpub : hss_Signer_Public s = some pub27 := hpublic_eq ih1 hI
    have hpub3 : hss_Signer_Public s3 = some pub27 := hpublic_eq ih1 hI3
    have hla := sig27_len a
    have hlb := sig27_len b1
    have hae : 0 ≤ a.1 ∧ a.1 ≤ 2147483647 := by have := ha.1; omega
    have hbe : 0 ≤ b1.1 ∧ b1.1 ≤ 2147483647 := by rw [hb0]; exact hae
    have hput := gput_new pub27 [] [] [] (a, sig27 a) 0 (right27 a ha) small_nil hae (parts_nil _) (by simp) (by simp) hla
    have e1 : ([] : List Sgd).take 0 ++ [(a, sig27 a)] ++ ([] : List Sgd).drop 0 = [(a, sig27 a)] := rfl
    rw [e1] at hput
    have hpt : Parts27 [(a, sig27 a)] b1.1 0 := by rw [hb0]; exact parts_one (a, sig27 a)
    rw [bind_some' hs, show ((s.1, s.2.1, s.2.2.1, s.2.2.2.1, s.2.2.2.2.1, s.2.2.2.2.2) : Sg) = s from rfl, bind_some' hpub, bind_some' (gnew_eq pub27 pub27_len), bind_some' hs2]
    dsimp only
    rw [show ((s2.1, s2.2.1, s2.2.2.1, s2.2.2.2.1, s2.2.2.2.2.1, s2.2.2.2.2.2) : Sg) = s2 from rfl, bind_some' hs3, bind_some' hput]
    dsimp only
    by_cases hab : a = b1
    · have hp2 := gput_old pub27 [(a, sig27 a)] [] [] (b1, sig27 b1) 0 (right27 b1 hb) (small_one (a, sig27 a) hae) hbe hpt (by simp) hab
      rw [bind_some' hp2]
      dsimp only
      rw [bind_some' hp2]
      dsimp only
      have hf := gforks_eq pub27 [(a, sig27 a)] [] [] (by simp) (fun f h => by cases h)
      rw [if_t (by simpa using hab), if_t (by simp), Option.bind_some, if_t (by simp), Option.bind_some, if_t (by simp), bind_some' hf, Option.bind_some]
      rfl
    · have hp2 := gput_fork pub27 [(a, sig27 a)] [] [] (b1, sig27 b1) 0 (right27 b1 hb) (small_one (a, sig27 a) hae) hbe hpt (by simp) hb0.symm hab hlb hla (by simp)
      rw [if_neg (by simp [hasFork])] at hp2
      have hp3 := gput_fork pub27 [(a, sig27 a)] [((a, sig27 a), (b1, sig27 b1))] [] (b1, sig27 b1) 0 (right27 b1 hb) (small_one (a, sig27 a) hae) hbe hpt (by simp) hb0.symm hab hlb hla (by simp)
      rw [if_pos (by simp [hasFork, hb0])] at hp3
      have hf := gforks_eq pub27 [(a, sig27 a)] [((a, sig27 a), (b1, sig27 b1))] [] (by simp) (fun f h => by rw [List.mem_singleton.1 h]; exact ⟨hla, hlb⟩)
      have hh := gheads_eq pub27 [(a, sig27 a)] [((a, sig27 a), (b1, sig27 b1))] [] (by simp) (fun x h => by rw [List.mem_singleton.1 h]; exact hla)
      rw [bind_some' (show gossip_Pool_Put (pub27, [(a, sig27 a)], [], []) (b1, sig27 b1) = some ((pub27, [(a, sig27 a)], [((a, sig27 a), (b1, sig27 b1))], []), 9) from hp2)]
      dsimp only
      rw [bind_some' hp3]
      dsimp only
      rw [if_f (by simpa using hab), bind_some' hf, if_f (by simp), Option.bind_some, if_f (by simp), Option.bind_some, if_f (by simp), Option.bind_some, if_f (by simp), bind_some' hh, Option.bind_some, if_f (by simp)]
      have hg : lget [((a, sig27 a), (b1, sig27 b1))] (0 : Int) = some ((a, sig27 a), (b1, sig27 b1)) := rfl
      rw [bind_some' hg, if_t (by simp), bind_some' hg, Option.bind_some, if_t (by simp), bind_some' hg, show ((s3.1, s3.2.1, s3.2.2.1, s3.2.2.2.1, s3.2.2.2.2.1, s3.2.2.2.2.2) : Sg) = s3 from rfl, bind_some' hpub3, bind_some' (right27 a ha), Option.bind_some, if_t rfl, bind_some' hg, bind_some' hpub3, bind_some' (right27 b1 hb), Option.bind_some]
  · rw [if_t (by
      by_cases h1 : key.length ≤ 100
      · by_cases h2 : isHd a
        · have h3 : ¬ isHd b1 := fun h => hc ⟨h1, h2, h⟩
          simp [h3]
        · simp [h2]
      · simp; omega), bind_some' awake27]
end Pu
end Go.Sl
namespace Go.Sl.W
open Go.Proofs Go.Sl Go.Sl.M
abbrev R_hash_state : Rep T_hash_state := vec 8 u32
abbrev R_lmots_form : Rep T_lmots_form := (prod i64 (prod i64 i64))
abbrev R_api_Hash : Rep T_api_Hash := vec 32 u8
abbrev R_head_Head : Rep T_head_Head := (prod i64 (prod i64 (prod R_api_Hash R_api_Hash)))
abbrev R_wire_Reader : Rep T_wire_Reader := (prod (sl u8) bl)
abbrev R_lms_signature : Rep T_lms_signature := (prod i64 (prod (sl u8) (sl R_api_Hash)))
abbrev R_api_ID : Rep T_api_ID := vec 16 u8
abbrev R_head_Signed : Rep T_head_Signed := (prod R_head_Head (sl u8))
abbrev R_lms_Tree : Rep T_lms_Tree := (prod i64 (prod i64 (prod R_api_ID (prod R_api_Hash (sl R_api_Hash)))))
abbrev R_hss_Signer : Rep T_hss_Signer := (prod i64 (prod i64 (prod R_api_Hash (prod (ptr R_lms_Tree) (prod (ptr R_lms_Tree) i64)))))
abbrev R_gossip_Fork : Rep T_gossip_Fork := (prod R_head_Signed R_head_Signed)
abbrev R_gossip_link : Rep T_gossip_link := (prod i64 i64)
abbrev R_gossip_Pool : Rep T_gossip_Pool := (prod (sl u8) (prod (sl R_head_Signed) (prod (sl R_gossip_Fork) (sl R_gossip_link))))
abbrev R_rolodexref17_Head : Rep T_rolodexref17_Head := (prod i64 (prod i64 (prod R_api_Hash R_api_Hash)))
abbrev HG0 (G : GP) : Prop := ∀ m, G.p m → GAt 0 R_hash_state G_hash_begin m
abbrev HG1 (G : GP) : Prop := ∀ m, G.p m → GAt 1 (vec 64 u32) G_hash_rounds m
abbrev HG2 (G : GP) : Prop := ∀ m, G.p m → GAt 2 (vec 5 R_lmots_form) G_lmots_forms m
abbrev ht := @has_tmp
abbrev jp := @j_pure
abbrev pm := @pj_move
abbrev pa := @pj_assign
abbrev oi := @Option.some.inj
abbrev pl := @pj_load_to
abbrev hc := @hasL_cons
abbrev rt := @run_text
abbrev rs := @run_seq
abbrev jy := @j_pure_y
set_option maxRecDepth 100000 in
set_option maxHeartbeats 4000000 in
theorem c_head_Head_is {G : GP} {p_h : T_head_Head} {r : Bool} (h : head_Head_is p_h = some r) : Ctr Tryd.prog G 25 [R_head_Head.slot p_h] [] (fun (_ : Unit) => bl.slot r) (fun (_ : Unit) => []) := by
  unfold head_Head_is at h
  refine ctr_of_run Tryd.func25 rfl 21 rfl rfl fun m0 w0 b0 => ?_
  show Run _ _ _ [(0, R_head_Head.slot p_h)] _
  refine rs ?_
  refine rt ?_
  refine jp (pj_box_to (ht rfl)) rfl rfl rfl ?_
  refine jp (pa has_bl) rfl rfl rfl ?_
  refine j_end ?_
  refine rs ?_
  refine rt ?_
  refine jp (pj_field_to (ht rfl) (Path.fst i64 (prod i64 (prod R_api_Hash R_api_Hash))) (by kernel_rfl)) rfl rfl rfl ?_
  refine jp (pl (ht rfl) (by kernel_rfl)) rfl rfl rfl ?_
  refine jp (pj_igeq (ht rfl) has_i64) rfl rfl rfl ?_
  refine jp (pm (ht rfl)) rfl rfl rfl ?_
  obtain ⟨y1, e2, h⟩ := bind_some h
  refine j_joinx (ι := Unit) (Γ' := fun _ => [(1, ptrTo R_head_Head p_h), (10, bl.slot y1)]) (H' := fun _ => []) 4 ?_ fun J => ?_
  · intro _
    clear e2
    show OpsJ _ _ _ [(1, ptrTo R_head_Head p_h), (10, bl.slot y1)] [] _
    refine jp (pm (ht rfl)) rfl rfl rfl ?_
    obtain ⟨y2, e4, h⟩ := bind_some h
    refine j_joinx (ι := Unit) (Γ' := fun _ => [(1, ptrTo R_head_Head p_h), (15, bl.slot y2)]) (H' := fun _ => []) 4 ?_ fun J => ?_
    · intro _
      clear e4
      show OpsJ _ _ _ [(1, ptrTo R_head_Head p_h), (15, bl.slot y2)] [] _
      refine jp (pm (ht rfl)) rfl rfl rfl ?_
      obtain ⟨y3, e6, h⟩ := bind_some h
      refine j_joinx (ι := Unit) (Γ' := fun _ => [(20, bl.slot y3)]) (H' := fun _ => []) 4 ?_ fun J => ?_
      · intro _
        clear e6
        show OpsJ _ _ _ [(20, bl.slot y3)] [] _
        refine jp (pa (ht rfl)) rfl rfl rfl ?_
        refine j_end ?_
        obtain rfl := oi h
        exact run_ret fun a w hst => q_ret1 hst rfl (.tmp rfl) () (fun _ _ h => h) (.nil)
      · rcases bool_tf (y2) with e5 | e5
        · replace e6 := bt e5 e6
          refine jy (pj_field_to (ht rfl) (Path.then (Path.snd i64 (prod i64 (prod R_api_Hash R_api_Hash))) (Path.fst i64 (prod R_api_Hash R_api_Hash))) (by kernel_rfl)) rfl rfl rfl rfl (bl_isx e5) rfl rfl ?_
          refine jy (pl (ht rfl) (by kernel_rfl)) rfl rfl rfl rfl (bl_isx e5) rfl rfl ?_
          refine jy (pj_ilss (ht rfl) has_i64) rfl rfl rfl rfl (bl_isx e5) rfl rfl ?_
          refine jp (PJ.eqv (R := bl) (pj_pick (t := any) (ht rfl) (fun _ => (ht rfl)) (fun he => absurd (e5.symm.trans he) (by decide))) (oi e6)) rfl rfl rfl ?_
          exact j_to (.cons (.of_lk rfl) <| .nil) (.nil) (J ())
        · replace e6 := bf e5 e6
          refine j_guard_no2 (j := 13) (want := true) rfl rfl rfl rfl (bl_isx e5) rfl rfl rfl ?_
          refine j_guard_no2 (j := 13) (want := true) rfl rfl rfl rfl (bl_isx e5) rfl rfl rfl ?_
          refine j_guard_no2 (j := 13) (want := true) rfl rfl rfl rfl (bl_isx e5) rfl rfl rfl ?_
          refine jp (PJ.eqv (R := bl) (pj_pick (t := any) (ht rfl) (fun he => absurd (e5.symm.trans he) (by decide)) (fun _ => has_bl)) (oi e6)) rfl rfl rfl ?_
          exact j_to (.cons (.of_lk rfl) <| .nil) (.nil) (J ())
    · rcases bool_tf (y1) with e3 | e3
      · replace e4 := bt e3 e4
        refine jy (pj_field_to (ht rfl) (Path.then (Path.snd i64 (prod i64 (prod R_api_Hash R_api_Hash))) (Path.fst i64 (prod R_api_Hash R_api_Hash))) (by kernel_rfl)) rfl rfl rfl rfl (bl_isx e3) rfl rfl ?_
        refine jy (pl (ht rfl) (by kernel_rfl)) rfl rfl rfl rfl (bl_isx e3) rfl rfl ?_
        refine jy (pj_igeq (ht rfl) has_i64) rfl rfl rfl rfl (bl_isx e3) rfl rfl ?_
        refine jp (PJ.eqv (R := bl) (pj_pick (t := any) (ht rfl) (fun _ => (ht rfl)) (fun he => absurd (e3.symm.trans he) (by decide))) (oi e4)) rfl rfl rfl ?_
        exact j_to (.cons (.of_lk rfl) <| .cons (.of_lk rfl) <| .nil) (.nil) (J ())
      · replace e4 := bf e3 e4
        refine j_guard_no2 (j := 8) (want := true) rfl rfl rfl rfl (bl_isx e3) rfl rfl rfl ?_
        refine j_guard_no2 (j := 8) (want := true) rfl rfl rfl rfl (bl_isx e3) rfl rfl rfl ?_
        refine j_guard_no2 (j := 8) (want := true) rfl rfl rfl rfl (bl_isx e3) rfl rfl rfl ?_
        refine jp (PJ.eqv (R := bl) (pj_pick (t := any) (ht rfl) (fun he => absurd (e3.symm.trans he) (by decide)) (fun _ => has_bl)) (oi e4)) rfl rfl rfl ?_
        exact j_to (.cons (.of_lk rfl) <| .cons (.of_lk rfl) <| .nil) (.nil) (J ())
  · rcases bool_tf (decide ((1 : Int) ≤ p_h.1)) with e1 | e1
    · replace e2 := bt e1 e2
      refine jy (pj_field_to (ht rfl) (Path.fst i64 (prod i64 (prod R_api_Hash R_api_Hash))) (by kernel_rfl)) rfl rfl rfl rfl (bl_isx e1) rfl rfl ?_
      refine jy (pl (ht rfl) (by kernel_rfl)) rfl rfl rfl rfl (bl_isx e1) rfl rfl ?_
      refine jy (pj_ilss (ht rfl) has_i64) rfl rfl rfl rfl (bl_isx e1) rfl rfl ?_
      refine jp (PJ.eqv (R := bl) (pj_pick (t := any) (ht rfl) (fun _ => (ht rfl)) (fun he => absurd (e1.symm.trans he) (by decide))) (oi e2)) rfl rfl rfl ?_
      exact j_to (.cons (.of_lk rfl) <| .cons (.of_lk rfl) <| .nil) (.nil) (J ())
    · replace e2 := bf e1 e2
      refine j_guard_no2 (j := 3) (want := true) rfl rfl rfl rfl (bl_isx e1) rfl rfl rfl ?_
      refine j_guard_no2 (j := 3) (want := true) rfl rfl rfl rfl (bl_isx e1) rfl rfl rfl ?_
      refine j_guard_no2 (j := 3) (want := true) rfl rfl rfl rfl (bl_isx e1) rfl rfl rfl ?_
      refine jp (PJ.eqv (R := bl) (pj_pick (t := any) (ht rfl) (fun he => absurd (e1.symm.trans he) (by decide)) (fun _ => has_bl)) (oi e2)) rfl rfl rfl ?_
      exact j_to (.cons (.of_lk rfl) <| .cons (.of_lk rfl) <| .nil) (.nil) (J ())
set_option maxRecDepth 100000 in
set_option maxHeartbeats 4000000 in
theorem c_wire_Writer_number {G : GP} {p_w : (List (BitVec 8)) × Bool} {p_x : BitVec 64} {p_bytes : Int} {b_w : Nat} {v_w0 : Value} {r : ((List (BitVec 8)) × Bool)} (h : wire_Writer_number p_w p_x p_bytes = some r) : Ctr Tryd.prog G 48 [val (.pointer (some ⟨b_w, 0, none⟩)), u64.slot p_x, i64.slot p_bytes] [box b_w 63 (prod (exv v_w0) bl) ((), p_w.2), own 5 u8 v_w0 p_w.1] (fun (u0 : Value) => tup []) (fun (u0 : Value) => [box b_w 63 (prod (exv u0) bl) ((), r.2), own 5 u8 u0 r.1]) := by
  unfold wire_Writer_number at h
  refine ctr_of_run Tryd.func48 rfl 35 rfl rfl fun m0 w0 b0 => ?_
  show Run _ _ _ [(0, val (.pointer (some ⟨b_w, 0, none⟩))), (1, u64.slot p_x), (2, i64.slot p_bytes)] _
  refine rs ?_
  refine rs ?_
  refine rt ?_
  refine jp (pm (ht rfl)) rfl rfl rfl ?_
  refine jp (pj_eq_nil_val (E := 63) (by kernel_rfl) (ht rfl)) rfl rfl rfl ?_
  refine jp (pm (ht rfl)) rfl rfl rfl ?_
  obtain ⟨y1, e2, h⟩ := bind_some h
  refine j_joinx (ι := Unit) (Γ' := fun _ => [(0, val (.pointer (some ⟨b_w, 0, none⟩))), (1, u64.slot p_x), (2, i64.slot p_bytes), (14, bl.slot y1)]) (H' := fun _ => [box b_w 63 (prod (exv v_w0) bl) ((), p_w.2), own 5 u8 v_w0 p_w.1]) 5 ?_ fun J => ?_
  · intro _
    clear e2
    show OpsJ _ _ _ [(0, val (.pointer (some ⟨b_w, 0, none⟩))), (1, u64.slot p_x), (2, i64.slot p_bytes), (14, bl.slot y1)] [box b_w 63 (prod (exv v_w0) bl) ((), p_w.2), own 5 u8 v_w0 p_w.1] _
    refine j_end ?_
    refine run_cond (ht rfl) (fun e3 => ?_) (fun e3 => ?_)
    · replace h := bt e3 h
      obtain rfl := oi h
      exact run_ret fun a w hst => q_retN hst rfl (.nil) rfl v_w0 (fun _ _ h => h) (.cons .here <| .cons .here <| .nil)
    · replace h := bf e3 h
      refine run_skip ?_
      refine rs ?_
      refine rt ?_
      refine jp (pm (ht rfl)) rfl rfl rfl ?_
      refine jp (pj_isub (ht rfl) has_i64) rfl rfl rfl ?_
      refine jp (pa (ht rfl)) rfl rfl rfl ?_
      refine j_end ?_
      obtain ⟨⟨y4, y5⟩, e7, h⟩ := bind_some h
      refine run_loopS (Γi := fun (i : Value) (s : Int × (List (BitVec 8))) => [(0, val (.pointer (some ⟨b_w, 0, none⟩))), (1, u64.slot p_x), (6, i64.slot s.1)]) (Hi := fun (i : Value) (s : Int × (List (BitVec 8))) => [box b_w 63 (prod (exv i) bl) ((), p_w.2), own 5 u8 i s.2]) e7 v_w0 (fun a w hst => (hst.sub (.cons (.of_lk rfl) <| .cons (.of_lk rfl) <| .cons (.of_lk rfl) <| .nil)).keep (.cons .here <| .cons .here <| .nil)) ?_ ?_
      · clear h e7
        rintro v1 ⟨y2, y3⟩ lr h
        change wire_Writer_number_L1 p_x y2 y3 = some _ at h
        show Run _ _ _ [(0, val (.pointer (some ⟨b_w, 0, none⟩))), (1, u64.slot p_x), (6, i64.slot y2)] [box b_w 63 (prod (exv v1) bl) ((), p_w.2), own 5 u8 v1 y3]
        unfold wire_Writer_number_L1 at h
        refine rs ?_
        refine rs ?_
        refine rt ?_
        refine jp (pm (ht rfl)) rfl rfl rfl ?_
        refine jp (pj_igeq (ht rfl) has_i64) rfl rfl rfl ?_
        refine j_end ?_
        refine run_cond (ht rfl) (fun e4 => ?_) (fun e4 => ?_)
        · replace h := bt e4 h
          refine run_skip ?_
          refine rs ?_
          refine run_block ?_
          obtain ⟨e5, h⟩ := grd_some h
          obtain ⟨e6, h⟩ := grd_some h
          refine run_keep (H' := [own 5 u8 v1 y3, box b_w 63 (prod (exv v1) bl) ((), p_w.2)]) (.cons (.next .here) <| .cons .here <| .nil) ?_
          refine run_drawL (n := 12) (H := [box b_w 63 (prod (exv v1) bl) ((), p_w.2)]) (Ls := [⟨[own 5 u8 v1 y3], [(11, ⟨Value, fun (v2 : Value) => [own 5 u8 v2 (y3 ++ ([(p_x >>> ((w64 ((8 : Int) * y2)).toNat)).setWidth 8]))], fun (v2 : Value) => [(32, ov v2)]⟩)]⟩]) (by kernel_rfl) (by kernel_rfl) (by kernel_rfl) (by kernel_rfl) (by kernel_rfl) rfl (.read rfl (.plain rfl (pm (ht rfl))) <| .read rfl (.plain rfl (pm (ht rfl))) <| .read rfl (.plain rfl (pj_nilCheck_ptr (ht rfl))) <| .read rfl (.plain rfl (pj_field_ptr (off := 0) (ht rfl) (by kernel_rfl))) <| .read rfl (.plain rfl (pj_load_box (ht rfl) .here (Path.then (Path.all (prod (exv v1) bl)) (Path.fst (exv v1) bl)) (by kernel_rfl))) <| .read rfl (.plain rfl (pm (ht rfl))) <| .read rfl (.plain rfl (pm (ht rfl))) <| .read rfl (.plain rfl (pj_imul has_i64 (ht rfl))) <| .read rfl (.plain rfl (pj_ushr (k := .u64) (b := 64) rfl (ht rfl) (ht rfl) isInt_i64 e5)) <| .read rfl (.plain rfl (pj_conv_uu (k := .u8) (b := 8) rfl rfl (by kernel_rfl) (ht rfl))) <| .read rfl (.plain rfl (pj_buildSlice (T := 5) (R := u8) (.cons (ht rfl) .nil) rfl (by kernel_rfl) (by kernel_rfl))) <| .step 0 rfl .here (.inl rfl) (fun i => ⟨_, _, fun j => j, (w_append (T := 5) (E := 5) (ht rfl) .here (src_data (ht rfl)) (by kernel_rfl) (by kernel_rfl) e6 rfl), fun _ => rfl, slotAny, dst1⟩) <| .nil) ?_
          rintro v2
          refine j_to (Γ' := [(0, val (.pointer (some ⟨b_w, 0, none⟩))), (1, u64.slot p_x), (6, i64.slot y2), (21, val (.pointer (some ⟨b_w, 0, none⟩))), (32, ov v2)]) (H' := [own 5 u8 v2 (y3 ++ ([(p_x >>> ((w64 ((8 : Int) * y2)).toNat)).setWidth 8])), box b_w 63 (prod (exv v1) bl) ((), p_w.2)]) (.cons (.of_lk rfl) <| .cons (.of_lk rfl) <| .cons (.of_lk rfl) <| .cons (.of_lk rfl) <| .cons (.of_lk rfl) <| .nil) (.cons .here <| .cons .here <| .nil) ?_
          refine jp (pj_nilCheck_ptr (ht rfl)) rfl rfl rfl ?_
          refine jp (pj_field_ptr (off := 0) (ht rfl) (by kernel_rfl)) rfl rfl rfl ?_
          refine j_store_exv (ht rfl) (ht rfl) (.next .here) (by kernel_rfl) ?_
          refine j_end ?_
          refine run_endblock ?_
          refine rt ?_
          refine jp (pm (ht rfl)) rfl rfl rfl ?_
          refine jp (pj_isub (ht rfl) has_i64) rfl rfl rfl ?_
          refine jp (pa (ht rfl)) rfl rfl rfl ?_
          refine j_end ?_
          obtain rfl := oi h
          exact run_next v2 (.cons (.of_lk rfl) <| .cons (.of_lk rfl) <| .cons (.of_lk rfl) <| .nil) (.cons .here <| .cons .here <| .nil)
        · replace h := bf e4 h
          obtain rfl := oi h
          exact run_brk v1 (.cons (.of_lk rfl) <| .cons (.of_lk rfl) <| .cons (.of_lk rfl) <| .nil) (.cons .here <| .cons .here <| .nil)
      · rintro v3
        show Run _ _ _ [(0, val (.pointer (some ⟨b_w, 0, none⟩))), (1, u64.slot p_x), (6, i64.slot y4)] [box b_w 63 (prod (exv v3) bl) ((), p_w.2), own 5 u8 v3 y5]
        refine run_to (Γ' := []) (H' := [box b_w 63 (prod (exv v3) bl) ((), p_w.2), own 5 u8 v3 y5]) (.nil) (.cons .here <| .cons .here <| .nil) ?_
        obtain rfl := oi h
        exact run_nil fun a w hst => q_retN_n hst rfl (.nil) rfl v3 (fun _ _ h => h) (.cons .here <| .cons .here <| .nil)
  · have e1 : (false) = false := rfl
    refine jy (pm (ht rfl)) rfl rfl rfl rfl (bl_isx e1) rfl rfl ?_
    refine jy (pj_nilCheck_ptr (ht rfl)) rfl rfl rfl rfl (bl_isx e1) rfl rfl ?_
    refine jy (pj_field_ptr (off := 1) (ht rfl) (by kernel_rfl)) rfl rfl rfl rfl (bl_isx e1) rfl rfl ?_
    refine jy (pj_load_box (ht rfl) .here (Path.then (Path.all (prod (exv v_w0) bl)) (Path.snd (exv v_w0) bl)) (by kernel_rfl)) rfl rfl rfl rfl (bl_isx e1) rfl rfl ?_
    refine jp (PJ.eqv (R := bl) (pj_pick (t := any) (ht rfl) (fun he => absurd (e1.symm.trans he) (by decide)) (fun _ => (ht rfl))) (oi e2)) rfl rfl rfl ?_
    exact j_to (.cons (.of_lk rfl) <| .cons (.of_lk rfl) <| .cons (.of_lk rfl) <| .cons (.of_lk rfl) <| .nil) (.cons .here <| .cons .here <| .nil) (J ())
set_option maxRecDepth 100000 in
set_option maxHeartbeats 4000000 in
theorem c_wire_Writer_U32 {G : GP} {p_w : (List (BitVec 8)) × Bool} {p_x : BitVec 32} {b_w : Nat} {v_w0 : Value} {r : ((List (BitVec 8)) × Bool)} (h : wire_Writer_U32 p_w p_x = some r) : Ctr Tryd.prog G 26 [val (.pointer (some ⟨b_w, 0, none⟩)), u32.slot p_x] [box b_w 63 (prod (exv v_w0) bl) ((), p_w.2), own 5 u8 v_w0 p_w.1] (fun (u0 : Value) => tup []) (fun (u0 : Value) => [box b_w 63 (prod (exv u0) bl) ((), r.2), own 5 u8 u0 r.1]) := by
  unfold wire_Writer_U32 at h
  refine ctr_of_run Tryd.func26 rfl 8 rfl rfl fun m0 w0 b0 => ?_
  show Run _ _ _ [(0, val (.pointer (some ⟨b_w, 0, none⟩))), (1, u32.slot p_x)] _
  refine rt ?_
  refine jp (pm (ht rfl)) rfl rfl rfl ?_
  refine jp (pm (ht rfl)) rfl rfl rfl ?_
  refine jp (pj_conv_uu (k := .u64) (b := 64) rfl rfl (by kernel_rfl) (ht rfl)) rfl rfl rfl ?_
  obtain ⟨r1, e1, h⟩ := bind_some h
  refine j_call (hc (ht rfl) <| hc (ht rfl) <| hc has_i64 <| hasL_nil) (by kernel_rfl) (c_wire_Writer_number e1) (.cons .here <| .cons .here <| .nil) rfl fun v1 => ?_
  refine j_end ?_
  obtain rfl := oi h
  exact run_nil fun a w hst => q_retN_n hst rfl (.nil) rfl v1 (fun _ _ h => h) (.cons .here <| .cons .here <| .nil)
set_option maxRecDepth 100000 in
set_option maxHeartbeats 4000000 in
theorem c_wire_Writer_Plain {G : GP} {p_w : (List (BitVec 8)) × Bool} {p_b : List (BitVec 8)} {b_w : Nat} {v_w0 : Value} {r : ((List (BitVec 8)) × Bool)} (h : wire_Writer_Plain p_w p_b = some r) : Ctr Tryd.prog G 27 [val (.pointer (some ⟨b_w, 0, none⟩)), (sl u8).slot p_b] [box b_w 63 (prod (exv v_w0) bl) ((), p_w.2), own 5 u8 v_w0 p_w.1] (fun (u0 : Value) => tup []) (fun (u0 : Value) => [box b_w 63 (prod (exv u0) bl) ((), r.2), own 5 u8 u0 r.1]) := by
  unfold wire_Writer_Plain at h
  refine ctr_of_run Tryd.func27 rfl 22 rfl rfl fun m0 w0 b0 => ?_
  show Run _ _ _ [(0, val (.pointer (some ⟨b_w, 0, none⟩))), (1, (sl u8).slot p_b)] _
  refine rs ?_
  refine rt ?_
  refine jp (pm (ht rfl)) rfl rfl rfl ?_
  refine jp (pj_ne_nil_val (E := 63) (by kernel_rfl) (ht rfl)) rfl rfl rfl ?_
  refine jp (pm (ht rfl)) rfl rfl rfl ?_
  obtain ⟨y1, e2, h⟩ := bind_some h
  refine j_joinx (ι := Unit) (Γ' := fun _ => [(0, val (.pointer (some ⟨b_w, 0, none⟩))), (1, (sl u8).slot p_b), (12, bl.slot y1)]) (H' := fun _ => [box b_w 63 (prod (exv v_w0) bl) ((), p_w.2), own 5 u8 v_w0 p_w.1]) 6 ?_ fun J => ?_
  · intro _
    clear e2
    show OpsJ _ _ _ [(0, val (.pointer (some ⟨b_w, 0, none⟩))), (1, (sl u8).slot p_b), (12, bl.slot y1)] [box b_w 63 (prod (exv v_w0) bl) ((), p_w.2), own 5 u8 v_w0 p_w.1] _
    refine j_end ?_
    refine run_cond (ht rfl) (fun e3 => ?_) (fun e3 => ?_)
    · replace h := bt e3 h
      refine rt ?_
      refine jp (pm (ht rfl)) rfl rfl rfl ?_
      refine jp (pm (ht rfl)) rfl rfl rfl ?_
      refine jp (pj_nilCheck_ptr (ht rfl)) rfl rfl rfl ?_
      refine jp (pj_field_ptr (off := 0) (ht rfl) (by kernel_rfl)) rfl rfl rfl ?_
      refine jp (pj_load_box (ht rfl) .here (Path.then (Path.all (prod (exv v_w0) bl)) (Path.fst (exv v_w0) bl)) (by kernel_rfl)) rfl rfl rfl ?_
      refine jp (pm (ht rfl)) rfl rfl rfl ?_
      obtain ⟨e4, h⟩ := grd_some h
      refine j_append (T := 5) (E := 5) (ht rfl) (.next .here) (src_data (ht rfl)) (by kernel_rfl) (by kernel_rfl) e4 rfl fun v1 => ?_
      refine jp (pj_nilCheck_ptr (ht rfl)) rfl rfl rfl ?_
      refine jp (pj_field_ptr (off := 0) (ht rfl) (by kernel_rfl)) rfl rfl rfl ?_
      refine j_store_exv (ht rfl) (ht rfl) (.next .here) (by kernel_rfl) ?_
      refine j_end ?_
      obtain rfl := oi h
      exact run_nil fun a w hst => q_retN_n hst rfl (.nil) rfl v1 (fun _ _ h => h) (.cons .here <| .cons .here <| .nil)
    · replace h := bf e3 h
      refine run_skip ?_
      obtain rfl := oi h
      exact run_nil fun a w hst => q_retN_n hst rfl (.nil) rfl v_w0 (fun _ _ h => h) (.cons .here <| .cons .here <| .nil)
  · have e1 : (true) = true := rfl
    refine jy (pm (ht rfl)) rfl rfl rfl rfl (bl_isx e1) rfl rfl ?_
    refine jy (pj_nilCheck_ptr (ht rfl)) rfl rfl rfl rfl (bl_isx e1) rfl rfl ?_
    refine jy (pj_field_ptr (off := 1) (ht rfl) (by kernel_rfl)) rfl rfl rfl rfl (bl_isx e1) rfl rfl ?_
    refine jy (pj_load_box (ht rfl) .here (Path.then (Path.all (prod (exv v_w0) bl)) (Path.snd (exv v_w0) bl)) (by kernel_rfl)) rfl rfl rfl rfl (bl_isx e1) rfl rfl ?_
    refine jy (pj_not (ht rfl)) rfl rfl rfl rfl (bl_isx e1) rfl rfl ?_
    refine jp (PJ.eqv (R := bl) (pj_pick (t := any) (ht rfl) (fun _ => (ht rfl)) (fun he => absurd (e1.symm.trans he) (by decide))) (oi e2)) rfl rfl rfl ?_
    exact j_to (.cons (.of_lk rfl) <| .cons (.of_lk rfl) <| .cons (.of_lk rfl) <| .nil) (.cons .here <| .cons .here <| .nil) (J ())
set_option maxRecDepth 100000 in
set_option maxHeartbeats 4000000 in
theorem c_slices_Clone_byte_byte {G : GP} {p_s : List (BitVec 8)} {r : (List (BitVec 8))} (h : slices_Clone_byte_byte p_s = some r) : Ctr Tryd.prog G 40 [(sl u8).slot p_s] [] (fun (u0 : Value) => ov u0) (fun (u0 : Value) => [own 5 u8 u0 r]) := by
  unfold slices_Clone_byte_byte at h
  refine ctr_of_run Tryd.func40 rfl 8 rfl rfl fun m0 w0 b0 => ?_
  show Run _ _ _ [(0, (sl u8).slot p_s)] _
  refine rs ?_
  refine rt ?_
  refine j_assign_nil (T := 5) u8 rfl fun v1 => ?_
  refine j_end ?_
  refine rs ?_
  refine rs ?_
  refine rt ?_
  refine jp (pm (ht rfl)) rfl rfl rfl ?_
  refine jp (pj_isnil (E := 5) (by kernel_rfl) (ht rfl)) rfl rfl rfl ?_
  refine j_end ?_
  refine run_cond_nil (ht rfl) (fun e0 => ?_) ?_
  · subst e0
    obtain ⟨e1, h⟩ := grd_some h
    obtain rfl := oi h
    refine rs ?_
    refine rt ?_
    refine j_assign_nil (T := 5) u8 rfl fun v2 => ?_
    refine j_end ?_
    exact run_ret fun a w hst => q_ret1 hst rfl (.tmp rfl) v2 (fun _ _ h => h) (.cons .here <| .nil)
  refine run_skip ?_
  refine rs ?_
  refine rt ?_
  refine j_buildSlice (T := 5) (R := u8) .nil rfl (by kernel_rfl) (by kernel_rfl) rfl fun v2 => ?_
  refine jp (pm (ht rfl)) rfl rfl rfl ?_
  obtain ⟨e1, h⟩ := grd_some h
  refine j_append (T := 5) (E := 5) (ht rfl) .here (src_data (ht rfl)) (by kernel_rfl) (by kernel_rfl) e1 rfl fun v3 => ?_
  refine jp (pa (ht rfl)) rfl rfl rfl ?_
  refine j_end ?_
  obtain rfl := oi h
  exact run_ret fun a w hst => q_ret1 hst rfl (.tmp rfl) v3 (fun _ _ h => h) (.cons .here <| .nil)
set_option maxRecDepth 100000 in
set_option maxHeartbeats 4000000 in
theorem c_wire_Writer_Out {G : GP} {p_w : (List (BitVec 8)) × Bool} {b_w : Nat} {v_w0 : Value} {r : ((List (BitVec 8)) × Bool) × (List (BitVec 8)) × Int} (h : wire_Writer_Out p_w = some r) : Ctr Tryd.prog G 28 [val (.pointer (some ⟨b_w, 0, none⟩))] [box b_w 63 (prod (exv v_w0) bl) ((), p_w.2), own 5 u8 v_w0 p_w.1] (fun (i : Value × Value) => tup [ov i.2, i64.slot r.2.2]) (fun (i : Value × Value) => [box b_w 63 (prod (exv i.1) bl) ((), r.1.2), own 5 u8 i.1 r.1.1, own 5 u8 i.2 r.2.1]) := by
  unfold wire_Writer_Out at h
  refine ctr_of_run Tryd.func28 rfl 17 rfl rfl fun m0 w0 b0 => ?_
  show Run _ _ _ [(0, val (.pointer (some ⟨b_w, 0, none⟩)))] _
  refine rs ?_
  refine rt ?_
  refine j_assign_nil (T := 5) u8 rfl fun v1 => ?_
  refine jp (pa has_i64) rfl rfl rfl ?_
  refine j_end ?_
  refine rs ?_
  refine run_block ?_
  refine rs ?_
  refine rt ?_
  refine jp (pm (ht rfl)) rfl rfl rfl ?_
  refine jp (pj_eq_nil_val (E := 63) (by kernel_rfl) (ht rfl)) rfl rfl rfl ?_
  refine jp (pa (ht rfl)) rfl rfl rfl ?_
  refine j_end ?_
  refine run_cond_f (ht rfl) rfl ?_
  refine rs ?_
  refine rt ?_
  refine jp (pm (ht rfl)) rfl rfl rfl ?_
  refine jp (pj_nilCheck_ptr (ht rfl)) rfl rfl rfl ?_
  refine jp (pj_field_ptr (off := 1) (ht rfl) (by kernel_rfl)) rfl rfl rfl ?_
  refine jp (pj_load_box (ht rfl) (.next .here) (Path.then (Path.all (prod (exv v_w0) bl)) (Path.snd (exv v_w0) bl)) (by kernel_rfl)) rfl rfl rfl ?_
  refine jp (pa (ht rfl)) rfl rfl rfl ?_
  refine j_end ?_
  refine run_cond (ht rfl) (fun e2 => ?_) (fun e2 => ?_)
  · replace h := bt e2 h
    refine rs ?_
    refine rt ?_
    refine j_assign_nil (T := 5) u8 rfl fun v2 => ?_
    refine jp (pa has_i64) rfl rfl rfl ?_
    refine j_end ?_
    obtain rfl := oi h
    exact run_ret fun a w hst => q_retN hst rfl (.cons (.tmp rfl) <| .cons (.tmp rfl) <| .nil) rfl (v_w0, v2) (fun _ _ h => h) (.cons (.next (.next .here)) <| .cons (.next (.next .here)) <| .cons .here <| .nil)
  · replace h := bf e2 h
    refine run_skip ?_
    refine run_endblock ?_
    refine rs ?_
    refine rt ?_
    refine jp (pm (ht rfl)) rfl rfl rfl ?_
    refine jp (pj_nilCheck_ptr (ht rfl)) rfl rfl rfl ?_
    refine jp (pj_field_ptr (off := 0) (ht rfl) (by kernel_rfl)) rfl rfl rfl ?_
    refine jp (pj_load_box (ht rfl) (.next .here) (Path.then (Path.all (prod (exv v_w0) bl)) (Path.fst (exv v_w0) bl)) (by kernel_rfl)) rfl rfl rfl ?_
    obtain ⟨r1, e3, h⟩ := bind_some h
    refine j_callB (hasBL_cons (hasB_own (ht rfl) (.next (.next .here))) <| hasBL_nil) (by kernel_rfl) (c_slices_Clone_byte_byte e3) (fun i => Rep.flat_slot (flat_exv i) _) (fun i e he => by rw [List.mem_singleton.1 he]; exact own_flat (flat_un _ _) _ _) rfl fun v3 => ?_
    refine jp (pa (ht rfl)) rfl rfl rfl ?_
    refine jp (pa has_i64) rfl rfl rfl ?_
    refine j_end ?_
    obtain rfl := oi h
    exact run_ret fun a w hst => q_retN hst rfl (.cons (.tmp rfl) <| .cons (.tmp rfl) <| .nil) rfl (v_w0, v3) (fun _ _ h => h) (.cons (.next (.next .here)) <| .cons (.next (.next .here)) <| .cons .here <| .nil)
set_option maxRecDepth 100000 in
set_option maxHeartbeats 4000000 in
theorem c_head_Encode {G : GP} {p_h : T_head_Head} {r : (List (BitVec 8)) × Int} (h : head_Encode p_h = some r) : Ctr Tryd.prog G 7 [R_head_Head.slot p_h] [] (fun (u0 : Value) => tup [ov u0, i64.slot r.2]) (fun (u0 : Value) => [own 5 u8 u0 r.1]) := by
  unfold head_Encode at h
  refine ctr_of_run Tryd.func7 rfl 32 rfl rfl fun m0 w0 b0 => ?_
  show Run _ _ _ [(0, R_head_Head.slot p_h)] _
  refine rs ?_
  refine rt ?_
  refine jp (pj_box_to (ht rfl)) rfl rfl rfl ?_
  refine j_assign_nil (T := 5) u8 rfl fun v1 => ?_
  refine jp (pa has_i64) rfl rfl rfl ?_
  refine j_end ?_
  refine rs ?_
  refine rs ?_
  refine rt ?_
  refine jp (pl (ht rfl) (by kernel_rfl)) rfl rfl rfl ?_
  obtain ⟨r1, e1, h⟩ := bind_some h
  refine jp (pj_call (hc (ht rfl) <| hasL_nil) (by kernel_rfl) (c_head_Head_is e1)) rfl rfl rfl ?_
  refine jp (pj_not (ht rfl)) rfl rfl rfl ?_
  refine j_end ?_
  refine run_cond (ht rfl) (fun e2 => ?_) (fun e2 => ?_)
  · replace h := bt e2 h
    refine rs ?_
    refine rt ?_
    refine j_assign_nil (T := 5) u8 rfl fun v2 => ?_
    refine jp (pa has_i64) rfl rfl rfl ?_
    refine j_end ?_
    obtain rfl := oi h
    exact run_ret fun a w hst => q_retN hst rfl (.cons (.tmp rfl) <| .cons (.tmp rfl) <| .nil) rfl v2 (fun _ _ h => h) (.cons .here <| .nil)
  · replace h := bf e2 h
    refine run_skip ?_
    refine rs ?_
    refine rt ?_
    refine jp (pj_build (R := prod (exv (.slice none 0 0)) bl) (zero_prod zero_exv zero_bl) (by kernel_rfl) (by kernel_rfl) rfl .nil) rfl rfl rfl ?_
    refine j_box_w (T1 := 5) u8 (ht rfl) rfl fun b1 v3 => ?_
    refine jp (pa (ht rfl)) rfl rfl rfl ?_
    refine j_end ?_
    refine rs ?_
    refine rt ?_
    refine jp (pm (ht rfl)) rfl rfl rfl ?_
    refine jp (pj_field_to (ht rfl) (Path.fst i64 (prod i64 (prod R_api_Hash R_api_Hash))) (by kernel_rfl)) rfl rfl rfl ?_
    refine jp (pl (ht rfl) (by kernel_rfl)) rfl rfl rfl ?_
    refine jp (pj_conv_un (k := .u32) (b := 32) rfl rfl (by kernel_rfl) (ht rfl) isInt_i64) rfl rfl rfl ?_
    obtain ⟨r2, e3, h⟩ := bind_some h
    refine j_call (hc (ht rfl) <| hc (ht rfl) <| hasL_nil) (by kernel_rfl) (c_wire_Writer_U32 e3) (.cons (.next .here) <| .cons .here <| .nil) rfl fun v4 => ?_
    refine j_end ?_
    refine rs ?_
    refine rt ?_
    refine jp (pm (ht rfl)) rfl rfl rfl ?_
    refine jp (pj_field_to (ht rfl) (Path.then (Path.snd i64 (prod i64 (prod R_api_Hash R_api_Hash))) (Path.fst i64 (prod R_api_Hash R_api_Hash))) (by kernel_rfl)) rfl rfl rfl ?_
    refine jp (pl (ht rfl) (by kernel_rfl)) rfl rfl rfl ?_
    refine jp (pj_conv_un (k := .u32) (b := 32) rfl rfl (by kernel_rfl) (ht rfl) isInt_i64) rfl rfl rfl ?_
    obtain ⟨r3, e4, h⟩ := bind_some h
    refine j_call (hc (ht rfl) <| hc (ht rfl) <| hasL_nil) (by kernel_rfl) (c_wire_Writer_U32 e4) (.cons .here <| .cons .here <| .nil) rfl fun v5 => ?_
    refine j_end ?_
    refine rs ?_
    refine rt ?_
    refine jp (pm (ht rfl)) rfl rfl rfl ?_
    refine jp (pj_field_to (ht rfl) (Path.then (Path.snd i64 (prod i64 (prod R_api_Hash R_api_Hash))) (Path.then (Path.snd i64 (prod R_api_Hash R_api_Hash)) (Path.fst R_api_Hash R_api_Hash))) (by kernel_rfl)) rfl rfl rfl ?_
    refine jp (pj_slice_toF (ht rfl) (by decide) (by kernel_rfl)) rfl rfl rfl ?_
    obtain ⟨r4, e5, h⟩ := bind_some h
    refine j_call (hc (ht rfl) <| hc (ht rfl) <| hasL_nil) (by kernel_rfl) (c_wire_Writer_Plain e5) (.cons .here <| .cons .here <| .nil) rfl fun v6 => ?_
    refine j_end ?_
    refine rs ?_
    refine rt ?_
    refine jp (pm (ht rfl)) rfl rfl rfl ?_
    refine jp (pj_field_to (ht rfl) (Path.then (Path.snd i64 (prod i64 (prod R_api_Hash R_api_Hash))) (Path.then (Path.snd i64 (prod R_api_Hash R_api_Hash)) (Path.snd R_api_Hash R_api_Hash))) (by kernel_rfl)) rfl rfl rfl ?_
    refine jp (pj_slice_toF (ht rfl) (by decide) (by kernel_rfl)) rfl rfl rfl ?_
    obtain ⟨r5, e6, h⟩ := bind_some h
    refine j_call (hc (ht rfl) <| hc (ht rfl) <| hasL_nil) (by kernel_rfl) (c_wire_Writer_Plain e6) (.cons .here <| .cons .here <| .nil) rfl fun v7 => ?_
    refine j_end ?_
    refine rs ?_
    refine rt ?_
    refine jp (pm (ht rfl)) rfl rfl rfl ?_
    obtain ⟨r6, e7, h⟩ := bind_some h
    refine j_call (hc (ht rfl) <| hasL_nil) (by kernel_rfl) (c_wire_Writer_Out e7) (.cons .here <| .cons .here <| .nil) rfl fun ⟨v8, v9⟩ => ?_
    refine jp (pj_extract (ht rfl) rfl) rfl rfl rfl ?_
    refine jp (pj_extract (ht rfl) rfl) rfl rfl rfl ?_
    refine jp (pa (ht rfl)) rfl rfl rfl ?_
    refine jp (pa (ht rfl)) rfl rfl rfl ?_
    refine j_end ?_
    obtain rfl := oi h
    exact run_ret fun a w hst => q_retN hst rfl (.cons (.tmp rfl) <| .cons (.tmp rfl) <| .nil) rfl v9 (fun _ _ h => h) (.cons (.next (.next .here)) <| .nil)
set_option maxRecDepth 100000 in
set_option maxHeartbeats 4000000 in
theorem c_wire_New {G : GP} {p_b : List (BitVec 8)} {r : ((List (BitVec 8)) × Bool)} (h : wire_New p_b = some r) : Ctr Tryd.prog G 30 [(sl u8).slot p_b] [] (fun (u0 : Nat) => val (.pointer (some ⟨u0, 0, none⟩))) (fun (u0 : Nat) => [box u0 98 (prod (sl u8) bl) (r.1, r.2)]) := by
  unfold wire_New at h
  refine ctr_of_run Tryd.func30 rfl 7 rfl rfl fun m0 w0 b0 => ?_
  show Run _ _ _ [(0, (sl u8).slot p_b)] _
  refine rs ?_
  refine rt ?_
  refine jp (pa (has_nilp (R := R_wire_Reader))) rfl rfl rfl ?_
  refine j_end ?_
  refine rs ?_
  refine rt ?_
  refine jp (pm (ht rfl)) rfl rfl rfl ?_
  obtain ⟨r1, e1, h⟩ := bind_some h
  refine jp (pj_call (hc (ht rfl) <| hasL_nil) (by kernel_rfl) (Ctr.froze (c_slices_Clone_byte_byte e1))) rfl rfl rfl ?_
  obtain ⟨x1, e2, h⟩ := bind_some h
  refine jp (PJ.eqv (pj_build (R := R_wire_Reader) (zero_prod zero_sl zero_bl) (by kernel_rfl) (by kernel_rfl) rfl (.cons (ht rfl) (Path.fst (sl u8) bl) (by kernel_rfl) .nil)) (oi e2)) rfl rfl rfl ?_
  refine j_box (ht rfl) rfl fun b1 => ?_
  refine jp (pa (ht rfl)) rfl rfl rfl ?_
  refine j_end ?_
  obtain rfl := oi h
  exact run_ret fun a w hst => q_ret1 hst rfl (.tmp rfl) b1 (fun _ _ h => h) (.cons .here <| .nil)
set_option maxRecDepth 100000 in
set_option maxHeartbeats 4000000 in
theorem c_wire_Reader_takes {G : GP} {p_r : (List (BitVec 8)) × Bool} {p_n : Int} {b_r : Nat} {r : ((List (BitVec 8)) × Bool) × (List (BitVec 8))} (h : wire_Reader_takes p_r p_n = some r) : Ctr Tryd.prog G 50 [val (.pointer (some ⟨b_r, 0, none⟩)), i64.slot p_n] [box b_r 98 (prod (sl u8) bl) (p_r.1, p_r.2)] (fun (_ : Unit) => (sl u8).slot r.2) (fun (_ : Unit) => [box b_r 98 (prod (sl u8) bl) (r.1.1, r.1.2)]) := by
  unfold wire_Reader_takes at h
  refine ctr_of_run Tryd.func50 rfl 45 rfl rfl fun m0 w0 b0 => ?_
  show Run _ _ _ [(0, val (.pointer (some ⟨b_r, 0, none⟩))), (1, i64.slot p_n)] _
  refine rs ?_
  refine rt ?_
  refine jp (pa (has_nil (R := u8))) rfl rfl rfl ?_
  refine j_end ?_
  refine rs ?_
  refine rs ?_
  refine rt ?_
  refine jp (pm (ht rfl)) rfl rfl rfl ?_
  refine jp (pj_eq_nil_val (E := 98) (by kernel_rfl) (ht rfl)) rfl rfl rfl ?_
  refine jp (pm (ht rfl)) rfl rfl rfl ?_
  obtain ⟨y1, e2, h⟩ := bind_some h
  refine j_joinx (ι := Unit) (Γ' := fun _ => [(0, val (.pointer (some ⟨b_r, 0, none⟩))), (1, i64.slot p_n), (13, bl.slot y1)]) (H' := fun _ => [box b_r 98 (prod (sl u8) bl) (p_r.1, p_r.2)]) 5 ?_ fun J => ?_
  · intro _
    clear e2
    show OpsJ _ _ _ [(0, val (.pointer (some ⟨b_r, 0, none⟩))), (1, i64.slot p_n), (13, bl.slot y1)] [box b_r 98 (prod (sl u8) bl) (p_r.1, p_r.2)] _
    refine j_end ?_
    refine run_cond (ht rfl) (fun e3 => ?_) (fun e3 => ?_)
    · replace h := bt e3 h
      refine rs ?_
      refine rt ?_
      refine jp (pa (has_nil (R := u8))) rfl rfl rfl ?_
      refine j_end ?_
      obtain rfl := oi h
      exact run_ret fun a w hst => q_ret1 hst rfl (.tmp rfl) () (fun _ _ h => h) (.cons .here <| .nil)
    · replace h := bf e3 h
      refine run_skip ?_
      refine rs ?_
      refine rs ?_
      refine rt ?_
      refine jp (pm (ht rfl)) rfl rfl rfl ?_
      refine jp (pj_ilss (ht rfl) has_i64) rfl rfl rfl ?_
      refine jp (pm (ht rfl)) rfl rfl rfl ?_
      obtain ⟨y2, e5, h⟩ := bind_some h
      refine j_joinx (ι := Unit) (Γ' := fun _ => [(0, val (.pointer (some ⟨b_r, 0, none⟩))), (1, i64.slot p_n), (24, bl.slot y2)]) (H' := fun _ => [box b_r 98 (prod (sl u8) bl) (p_r.1, p_r.2)]) 8 ?_ fun J => ?_
      · intro _
        clear e5
        show OpsJ _ _ _ [(0, val (.pointer (some ⟨b_r, 0, none⟩))), (1, i64.slot p_n), (24, bl.slot y2)] [box b_r 98 (prod (sl u8) bl) (p_r.1, p_r.2)] _
        refine j_end ?_
        refine run_cond (ht rfl) (fun e6 => ?_) (fun e6 => ?_)
        · replace h := bt e6 h
          refine rs ?_
          refine rt ?_
          refine jp (pm (ht rfl)) rfl rfl rfl ?_
          refine jp (pj_nilCheck_ptr (ht rfl)) rfl rfl rfl ?_
          refine jp (pj_field_ptr (off := 1) (ht rfl) (by kernel_rfl)) rfl rfl rfl ?_
          refine j_store_boxx (r' := (p_r.1, true)) (ht rfl) has_bl .here (Path.then (Path.all (prod (sl u8) bl)) (Path.snd (sl u8) bl)) (by kernel_rfl) rfl ?_
          refine j_end ?_
          refine rs ?_
          refine rt ?_
          refine jp (pa (has_nil (R := u8))) rfl rfl rfl ?_
          refine j_end ?_
          obtain rfl := oi h
          exact run_ret fun a w hst => q_ret1 hst rfl (.tmp rfl) () (fun _ _ h => h) (.cons .here <| .nil)
        · replace h := bf e6 h
          refine run_skip ?_
          refine rs ?_
          refine rt ?_
          refine jp (pm (ht rfl)) rfl rfl rfl ?_
          refine jp (pj_nilCheck_ptr (ht rfl)) rfl rfl rfl ?_
          refine jp (pj_field_ptr (off := 0) (ht rfl) (by kernel_rfl)) rfl rfl rfl ?_
          refine jp (pj_load_box (ht rfl) .here (Path.then (Path.all (prod (sl u8) bl)) (Path.fst (sl u8) bl)) (by kernel_rfl)) rfl rfl rfl ?_
          refine jp (pm (ht rfl)) rfl rfl rfl ?_
          refine jp (pm (ht rfl)) rfl rfl rfl ?_
          obtain ⟨x1, e7, h⟩ := bind_some h
          refine jp (pj_slice3 (ht rfl) (ht rfl) (ht rfl) e7 (by kernel_rfl)) rfl rfl rfl ?_
          refine jp (pa (ht rfl)) rfl rfl rfl ?_
          refine j_end ?_
          refine rs ?_
          refine rt ?_
          refine jp (pm (ht rfl)) rfl rfl rfl ?_
          refine jp (pm (ht rfl)) rfl rfl rfl ?_
          refine jp (pj_nilCheck_ptr (ht rfl)) rfl rfl rfl ?_
          refine jp (pj_field_ptr (off := 0) (ht rfl) (by kernel_rfl)) rfl rfl rfl ?_
          refine jp (pj_load_box (ht rfl) .here (Path.then (Path.all (prod (sl u8) bl)) (Path.fst (sl u8) bl)) (by kernel_rfl)) rfl rfl rfl ?_
          refine jp (pm (ht rfl)) rfl rfl rfl ?_
          obtain ⟨x2, e8, h⟩ := bind_some h
          refine jp (pj_slice_slx (ht rfl) (.yes (ht rfl) isInt_i64) .no e8 (by kernel_rfl)) rfl rfl rfl ?_
          refine jp (pj_nilCheck_ptr (ht rfl)) rfl rfl rfl ?_
          refine jp (pj_field_ptr (off := 0) (ht rfl) (by kernel_rfl)) rfl rfl rfl ?_
          refine j_store_boxx (r' := (x2, p_r.2)) (ht rfl) (ht rfl) .here (Path.then (Path.all (prod (sl u8) bl)) (Path.fst (sl u8) bl)) (by kernel_rfl) rfl ?_
          refine j_end ?_
          refine rs ?_
          refine rt ?_
          refine jp (pm (ht rfl)) rfl rfl rfl ?_
          refine jp (pa (ht rfl)) rfl rfl rfl ?_
          refine j_end ?_
          obtain rfl := oi h
          exact run_ret fun a w hst => q_ret1 hst rfl (.tmp rfl) () (fun _ _ h => h) (.cons .here <| .nil)
      · rcases bool_tf (decide (p_n < (0 : Int))) with e4 | e4
        · replace e5 := bt e4 e5
          refine j_guard_no2 (j := 2) (want := false) rfl rfl rfl rfl (bl_isx e4) rfl rfl rfl ?_
          refine j_guard_no2 (j := 2) (want := false) rfl rfl rfl rfl (bl_isx e4) rfl rfl rfl ?_
          refine j_guard_no2 (j := 2) (want := false) rfl rfl rfl rfl (bl_isx e4) rfl rfl rfl ?_
          refine j_guard_no2 (j := 2) (want := false) rfl rfl rfl rfl (bl_isx e4) rfl rfl rfl ?_
          refine j_guard_no2 (j := 2) (want := false) rfl rfl rfl rfl (bl_isx e4) rfl rfl rfl ?_
          refine j_guard_no2 (j := 2) (want := false) rfl rfl rfl rfl (bl_isx e4) rfl rfl rfl ?_
          refine j_guard_no2 (j := 2) (want := false) rfl rfl rfl rfl (bl_isx e4) rfl rfl rfl ?_
          refine jp (PJ.eqv (R := bl) (pj_pick (t := any) (ht rfl) (fun _ => has_bl) (fun he => absurd (e4.symm.trans he) (by decide))) (oi e5)) rfl rfl rfl ?_
          exact j_to (.cons (.of_lk rfl) <| .cons (.of_lk rfl) <| .cons (.of_lk rfl) <| .nil) (.cons .here <| .nil) (J ())
        · replace e5 := bf e4 e5
          refine jy (pm (ht rfl)) rfl rfl rfl rfl (bl_isx e4) rfl rfl ?_
          refine jy (pm (ht rfl)) rfl rfl rfl rfl (bl_isx e4) rfl rfl ?_
          refine jy (pj_nilCheck_ptr (ht rfl)) rfl rfl rfl rfl (bl_isx e4) rfl rfl ?_
          refine jy (pj_field_ptr (off := 0) (ht rfl) (by kernel_rfl)) rfl rfl rfl rfl (bl_isx e4) rfl rfl ?_
          refine jy (pj_load_box (ht rfl) .here (Path.then (Path.all (prod (sl u8) bl)) (Path.fst (sl u8) bl)) (by kernel_rfl)) rfl rfl rfl rfl (bl_isx e4) rfl rfl ?_
          refine jy (pj_len_sl (sz := 1) (ht rfl) (by kernel_rfl)) rfl rfl rfl rfl (bl_isx e4) rfl rfl ?_
          refine jy (pj_igtr (ht rfl) (ht rfl)) rfl rfl rfl rfl (bl_isx e4) rfl rfl ?_
          refine jp (PJ.eqv (R := bl) (pj_pick (t := any) (ht rfl) (fun he => absurd (e4.symm.trans he) (by decide)) (fun _ => (ht rfl))) (oi e5)) rfl rfl rfl ?_
          exact j_to (.cons (.of_lk rfl) <| .cons (.of_lk rfl) <| .cons (.of_lk rfl) <| .nil) (.cons .here <| .nil) (J ())
  · have e1 : (false) = false := rfl
    refine jy (pm (ht rfl)) rfl rfl rfl rfl (bl_isx e1) rfl rfl ?_
    refine jy (pj_nilCheck_ptr (ht rfl)) rfl rfl rfl rfl (bl_isx e1) rfl rfl ?_
    refine jy (pj_field_ptr (off := 1) (ht rfl) (by kernel_rfl)) rfl rfl rfl rfl (bl_isx e1) rfl rfl ?_
    refine jy (pj_load_box (ht rfl) .here (Path.then (Path.all (prod (sl u8) bl)) (Path.snd (sl u8) bl)) (by kernel_rfl)) rfl rfl rfl rfl (bl_isx e1) rfl rfl ?_
    refine jp (PJ.eqv (R := bl) (pj_pick (t := any) (ht rfl) (fun he => absurd (e1.symm.trans he) (by decide)) (fun _ => (ht rfl))) (oi e2)) rfl rfl rfl ?_
    exact j_to (.cons (.of_lk rfl) <| .cons (.of_lk rfl) <| .cons (.of_lk rfl) <| .nil) (.cons .here <| .nil) (J ())
set_option maxRecDepth 100000 in
set_option maxHeartbeats 4000000 in
theorem c_wire_Reader_peek {G : GP} {p_r : (List (BitVec 8)) × Bool} {p_bytes : Int} {b_r : Nat} {c_r : List Value} {r : (BitVec 64) × Bool} (h : wire_Reader_peek p_r p_bytes = some r) : Ctr Tryd.prog G 70 [val (.pointer (some ⟨b_r, 0, none⟩)), i64.slot p_bytes] [box b_r 98 (exr (prod (sl u8) bl) c_r) (p_r.1, p_r.2)] (fun (_ : Unit) => tup [u64.slot r.1, bl.slot r.2]) (fun (_ : Unit) => [box b_r 98 (exr (prod (sl u8) bl) c_r) (p_r.1, p_r.2)]) := by
  unfold wire_Reader_peek at h
  refine ctr_of_run Tryd.func70 rfl 44 rfl rfl fun m0 w0 b0 => ?_
  show Run _ _ _ [(0, val (.pointer (some ⟨b_r, 0, none⟩))), (1, i64.slot p_bytes)] _
  refine rs ?_
  refine rt ?_
  refine jp (PJ.xw (.ex .refl) (pa (has_un (x := 0#64) rfl))) rfl rfl rfl ?_
  refine jp (PJ.xw (.ex .refl) (pa has_bl)) rfl rfl rfl ?_
  refine j_end ?_
  refine rs ?_
  refine rs ?_
  refine rt ?_
  refine jp (PJ.xw (.ex .refl) (pm (ht rfl))) rfl rfl rfl ?_
  refine jp (PJ.xw (.ex .refl) (pj_eq_nil_val (E := 98) (by kernel_rfl) (ht rfl))) rfl rfl rfl ?_
  refine jp (PJ.xw (.ex .refl) (pm (ht rfl))) rfl rfl rfl ?_
  obtain ⟨y1, e2, h⟩ := bind_some h
  refine j_joinx (ι := Unit) (Γ' := fun _ => [(0, val (.pointer (some ⟨b_r, 0, none⟩))), (1, i64.slot p_bytes), (16, bl.slot y1)]) (H' := fun _ => [box b_r 98 (exr (prod (sl u8) bl) c_r) (p_r.1, p_r.2)]) 5 ?_ fun J => ?_
  · intro _
    clear e2
    show OpsJ _ _ _ [(0, val (.pointer (some ⟨b_r, 0, none⟩))), (1, i64.slot p_bytes), (16, bl.slot y1)] [box b_r 98 (exr (prod (sl u8) bl) c_r) (p_r.1, p_r.2)] _
    refine jp (PJ.xw (.ex .refl) (pm (ht rfl))) rfl rfl rfl ?_
    obtain ⟨y2, e4, h⟩ := bind_some h
    refine j_joinx (ι := Unit) (Γ' := fun _ => [(0, val (.pointer (some ⟨b_r, 0, none⟩))), (1, i64.slot p_bytes), (25, bl.slot y2)]) (H' := fun _ => [box b_r 98 (exr (prod (sl u8) bl) c_r) (p_r.1, p_r.2)]) 8 ?_ fun J => ?_
    · intro _
      clear e4
      show OpsJ _ _ _ [(0, val (.pointer (some ⟨b_r, 0, none⟩))), (1, i64.slot p_bytes), (25, bl.slot y2)] [box b_r 98 (exr (prod (sl u8) bl) c_r) (p_r.1, p_r.2)] _
      refine j_end ?_
      refine run_cond (ht rfl) (fun e5 => ?_) (fun e5 => ?_)
      · replace h := bt e5 h
        refine rs ?_
        refine rt ?_
        refine jp (PJ.xw (.ex .refl) (pa (has_un (x := 0#64) rfl))) rfl rfl rfl ?_
        refine jp (PJ.xw (.ex .refl) (pa has_bl)) rfl rfl rfl ?_
        refine j_end ?_
        obtain rfl := oi h
        exact run_ret fun a w hst => q_retN hst rfl (.cons (.tmp rfl) <| .cons (.tmp rfl) <| .nil) rfl () (fun _ _ h => h) (.cons .here <| .nil)
      · replace h := bf e5 h
        refine run_skip ?_
        refine rs ?_
        refine rt ?_
        refine jp (PJ.xw (.ex .refl) (pa (has_un (x := 0#64) rfl))) rfl rfl rfl ?_
        refine j_end ?_
        refine rs ?_
        refine rs ?_
        refine rt ?_
        refine jp (PJ.xw (.ex .refl) (pm (ht rfl))) rfl rfl rfl ?_
        refine jp (PJ.xw (.ex .refl) (pj_nilCheck_ptr (ht rfl))) rfl rfl rfl ?_
        refine jp (PJ.xw (.ex .refl) (pj_field_ptr (off := 0) (ht rfl) (by kernel_rfl))) rfl rfl rfl ?_
        refine jp (PJ.xw (.ex .refl) (pj_load_box (ht rfl) .here (Path.then (Path.all (prod (sl u8) bl)) (Path.fst (sl u8) bl)) (by kernel_rfl))) rfl rfl rfl ?_
        refine jp (PJ.xw (.ex .refl) (pm (ht rfl))) rfl rfl rfl ?_
        obtain ⟨x1, e6, h⟩ := bind_some h
        refine jp (PJ.xw (.ex .refl) (pj_slice_slx (ht rfl) .no (.yes (ht rfl) isInt_i64) e6 (by kernel_rfl))) rfl rfl rfl ?_
        refine jp (PJ.xw (.ex .refl) (pj_len_sl (sz := 1) (ht rfl) (by kernel_rfl))) rfl rfl rfl ?_
        refine jp (PJ.xw (.ex .refl) (pm has_i64)) rfl rfl rfl ?_
        refine j_end ?_
        obtain ⟨⟨y5, y6⟩, e9, h⟩ := bind_some h
        refine run_loopS (Γi := fun (i : Unit) (s : (BitVec 64) × Int) => [(6, u64.slot s.1), (31, (sl u8).slot x1), (32, i64.slot (x1.length : Int)), (33, i64.slot s.2)]) (Hi := fun (i : Unit) (s : (BitVec 64) × Int) => [box b_r 98 (exr (prod (sl u8) bl) c_r) (p_r.1, p_r.2)]) e9 () (fun a w hst => (hst.sub (.cons (.of_lk rfl) <| .cons (.of_lk rfl) <| .cons (.of_lk rfl) <| .cons (.of_lk rfl) <| .nil)).keep (.cons .here <| .nil)) ?_ ?_
        · clear h e9
          rintro _ ⟨y3, y4⟩ lr h
          change wire_Reader_peek_L1 x1 y3 y4 = some _ at h
          show Run _ _ _ [(6, u64.slot y3), (31, (sl u8).slot x1), (32, i64.slot (x1.length : Int)), (33, i64.slot y4)] [box b_r 98 (exr (prod (sl u8) bl) c_r) (p_r.1, p_r.2)]
          unfold wire_Reader_peek_L1 at h
          refine rs ?_
          refine rt ?_
          refine jp (PJ.xw (.ex .refl) (pj_ilss (ht rfl) (ht rfl))) rfl rfl rfl ?_
          refine j_end ?_
          refine rs ?_
          refine run_cond (ht rfl) (fun e7 => ?_) (fun e7 => ?_)
          · replace h := bt e7 h
            refine run_skip ?_
            refine rs ?_
            refine run_block ?_
            refine rs ?_
            refine rt ?_
            obtain ⟨x2, e8, h⟩ := bind_some h
            refine jp (PJ.xw (.ex .refl) (pj_index_slx (ht rfl) (ht rfl) isInt_i64 e8 (by kernel_rfl))) rfl rfl rfl ?_
            refine jp (PJ.xw (.ex .refl) (pl (ht rfl) (by kernel_rfl))) rfl rfl rfl ?_
            refine jp (PJ.xw (.ex .refl) (pa (ht rfl))) rfl rfl rfl ?_
            refine j_end ?_
            refine rt ?_
            refine jp (PJ.xw (.ex .refl) (pm (ht rfl))) rfl rfl rfl ?_
            refine jp (PJ.xw (.ex .refl) (pj_ushl (k := .u64) (b := 64) rfl rfl (ht rfl) (has_un (x := 8#64) rfl) isInt_un (Int.natCast_nonneg _))) rfl rfl rfl ?_
            refine jp (PJ.xw (.ex .refl) (pm (ht rfl))) rfl rfl rfl ?_
            refine jp (PJ.xw (.ex .refl) (pj_conv_uu (k := .u64) (b := 64) rfl rfl (by kernel_rfl) (ht rfl))) rfl rfl rfl ?_
            refine jp (PJ.xw (.ex .refl) (pj_uor (k := .u64) (b := 64) rfl rfl (ht rfl) (ht rfl))) rfl rfl rfl ?_
            refine jp (PJ.xw (.ex .refl) (pa (ht rfl))) rfl rfl rfl ?_
            refine j_end ?_
            refine run_endblock ?_
            refine rt ?_
            refine jp (PJ.xw (.ex .refl) (pj_iadd (ht rfl) has_i64)) rfl rfl rfl ?_
            refine jp (PJ.xw (.ex .refl) (pm (ht rfl))) rfl rfl rfl ?_
            refine j_end ?_
            obtain rfl := oi h
            exact run_next () (.cons (.of_lk rfl) <| .cons (.of_lk rfl) <| .cons (.of_lk rfl) <| .cons (.of_lk rfl) <| .nil) (.cons .here <| .nil)
          · replace h := bf e7 h
            obtain rfl := oi h
            exact run_brk () (.cons (.of_lk rfl) <| .cons (.of_lk rfl) <| .cons (.of_lk rfl) <| .cons (.of_lk rfl) <| .nil) (.cons .here <| .nil)
        · rintro _
          show Run _ _ _ [(6, u64.slot y5), (31, (sl u8).slot x1), (32, i64.slot (x1.length : Int)), (33, i64.slot y6)] [box b_r 98 (exr (prod (sl u8) bl) c_r) (p_r.1, p_r.2)]
          refine run_to (Γ' := [(6, u64.slot y5)]) (H' := [box b_r 98 (exr (prod (sl u8) bl) c_r) (p_r.1, p_r.2)]) (.cons (.of_lk rfl) <| .nil) (.cons .here <| .nil) ?_
          refine rs ?_
          refine rt ?_
          refine jp (PJ.xw (.ex .refl) (pm (ht rfl))) rfl rfl rfl ?_
          refine jp (PJ.xw (.ex .refl) (pa (ht rfl))) rfl rfl rfl ?_
          refine jp (PJ.xw (.ex .refl) (pa has_bl)) rfl rfl rfl ?_
          refine j_end ?_
          obtain rfl := oi h
          exact run_ret fun a w hst => q_retN hst rfl (.cons (.tmp rfl) <| .cons (.tmp rfl) <| .nil) rfl () (fun _ _ h => h) (.cons .here <| .nil)
    · rcases bool_tf (y1) with e3 | e3
      · replace e4 := bt e3 e4
        refine j_guard_no2 (j := 8) (want := false) rfl rfl rfl rfl (bl_isx e3) rfl rfl rfl ?_
        refine j_guard_no2 (j := 8) (want := false) rfl rfl rfl rfl (bl_isx e3) rfl rfl rfl ?_
        refine j_guard_no2 (j := 8) (want := false) rfl rfl rfl rfl (bl_isx e3) rfl rfl rfl ?_
        refine j_guard_no2 (j := 8) (want := false) rfl rfl rfl rfl (bl_isx e3) rfl rfl rfl ?_
        refine j_guard_no2 (j := 8) (want := false) rfl rfl rfl rfl (bl_isx e3) rfl rfl rfl ?_
        refine j_guard_no2 (j := 8) (want := false) rfl rfl rfl rfl (bl_isx e3) rfl rfl rfl ?_
        refine j_guard_no2 (j := 8) (want := false) rfl rfl rfl rfl (bl_isx e3) rfl rfl rfl ?_
        refine jp (PJ.eqv (R := bl) (pj_pick (t := any) (ht rfl) (fun _ => has_bl) (fun he => absurd (e3.symm.trans he) (by decide))) (oi e4)) rfl rfl rfl ?_
        exact j_to (.cons (.of_lk rfl) <| .cons (.of_lk rfl) <| .cons (.of_lk rfl) <| .nil) (.cons .here <| .nil) (J ())
      · replace e4 := bf e3 e4
        refine jy (PJ.xw (.ex .refl) (pm (ht rfl))) rfl rfl rfl rfl (bl_isx e3) rfl rfl ?_
        refine jy (PJ.xw (.ex .refl) (pj_nilCheck_ptr (ht rfl))) rfl rfl rfl rfl (bl_isx e3) rfl rfl ?_
        refine jy (PJ.xw (.ex .refl) (pj_field_ptr (off := 0) (ht rfl) (by kernel_rfl))) rfl rfl rfl rfl (bl_isx e3) rfl rfl ?_
        refine jy (PJ.xw (.ex .refl) (pj_load_box (ht rfl) .here (Path.then (Path.all (prod (sl u8) bl)) (Path.fst (sl u8) bl)) (by kernel_rfl))) rfl rfl rfl rfl (bl_isx e3) rfl rfl ?_
        refine jy (PJ.xw (.ex .refl) (pj_len_sl (sz := 1) (ht rfl) (by kernel_rfl))) rfl rfl rfl rfl (bl_isx e3) rfl rfl ?_
        refine jy (PJ.xw (.ex .refl) (pm (ht rfl))) rfl rfl rfl rfl (bl_isx e3) rfl rfl ?_
        refine jy (PJ.xw (.ex .refl) (pj_ilss (ht rfl) (ht rfl))) rfl rfl rfl rfl (bl_isx e3) rfl rfl ?_
        refine jp (PJ.eqv (R := bl) (pj_pick (t := any) (ht rfl) (fun he => absurd (e3.symm.trans he) (by decide)) (fun _ => (ht rfl))) (oi e4)) rfl rfl rfl ?_
        exact j_to (.cons (.of_lk rfl) <| .cons (.of_lk rfl) <| .cons (.of_lk rfl) <| .nil) (.cons .here <| .nil) (J ())
  · have e1 : (false) = false := rfl
    refine jy (PJ.xw (.ex .refl) (pm (ht rfl))) rfl rfl rfl rfl (bl_isx e1) rfl rfl ?_
    refine jy (PJ.xw (.ex .refl) (pj_nilCheck_ptr (ht rfl))) rfl rfl rfl rfl (bl_isx e1) rfl rfl ?_
    refine jy (PJ.xw (.ex .refl) (pj_field_ptr (off := 1) (ht rfl) (by kernel_rfl))) rfl rfl rfl rfl (bl_isx e1) rfl rfl ?_
    refine jy (PJ.xw (.ex .refl) (pj_load_box (ht rfl) .here (Path.then (Path.all (prod (sl u8) bl)) (Path.snd (sl u8) bl)) (by kernel_rfl))) rfl rfl rfl rfl (bl_isx e1) rfl rfl ?_
    refine jp (PJ.eqv (R := bl) (pj_pick (t := any) (ht rfl) (fun he => absurd (e1.symm.trans he) (by decide)) (fun _ => (ht rfl))) (oi e2)) rfl rfl rfl ?_
    exact j_to (.cons (.of_lk rfl) <| .cons (.of_lk rfl) <| .cons (.of_lk rfl) <| .nil) (.cons .here <| .nil) (J ())
set_option maxRecDepth 100000 in
set_option maxHeartbeats 4000000 in
theorem c_wire_Reader_number {G : GP} {p_r : (List (BitVec 8)) × Bool} {p_bytes : Int} {b_r : Nat} {r : ((List (BitVec 8)) × Bool) × (BitVec 64)} (h : wire_Reader_number p_r p_bytes = some r) : Ctr Tryd.prog G 49 [val (.pointer (some ⟨b_r, 0, none⟩)), i64.slot p_bytes] [box b_r 98 (prod (sl u8) bl) (p_r.1, p_r.2)] (fun (_ : Unit) => u64.slot r.2) (fun (_ : Unit) => [box b_r 98 (prod (sl u8) bl) (r.1.1, r.1.2)]) := by
  unfold wire_Reader_number at h
  refine ctr_of_run Tryd.func49 rfl 19 rfl rfl fun m0 w0 b0 => ?_
  show Run _ _ _ [(0, val (.pointer (some ⟨b_r, 0, none⟩))), (1, i64.slot p_bytes)] _
  refine rs ?_
  refine rt ?_
  refine jp (pa (has_un (x := 0#64) rfl)) rfl rfl rfl ?_
  refine j_end ?_
  refine rs ?_
  refine rt ?_
  refine jp (pm (ht rfl)) rfl rfl rfl ?_
  refine jp (pm (ht rfl)) rfl rfl rfl ?_
  obtain ⟨r1, e1, h⟩ := bind_some h
  refine jp (pj_callR (hc (ht rfl) <| hc (ht rfl) <| hasL_nil) .here (by kernel_rfl) (fun _ => (c_wire_Reader_peek e1))) rfl rfl rfl ?_
  refine jp (pm (ht rfl)) rfl rfl rfl ?_
  refine jp (pj_extract (ht rfl) rfl) rfl rfl rfl ?_
  refine jp (pj_extract (ht rfl) rfl) rfl rfl rfl ?_
  refine jp (pa (ht rfl)) rfl rfl rfl ?_
  refine jp (pa (ht rfl)) rfl rfl rfl ?_
  refine j_end ?_
  refine rs ?_
  refine rs ?_
  refine rt ?_
  refine jp (pm (ht rfl)) rfl rfl rfl ?_
  refine jp (pm (ht rfl)) rfl rfl rfl ?_
  obtain ⟨r2, e2, h⟩ := bind_some h
  refine j_call (hc (ht rfl) <| hc (ht rfl) <| hasL_nil) (by kernel_rfl) (c_wire_Reader_takes e2) (.cons .here <| .nil) rfl fun _ => ?_
  refine j_end ?_
  refine rs ?_
  refine rt ?_
  refine jp (pm (ht rfl)) rfl rfl rfl ?_
  refine jp (pj_not (ht rfl)) rfl rfl rfl ?_
  refine j_end ?_
  refine run_cond (ht rfl) (fun e3 => ?_) (fun e3 => ?_)
  · replace h := bt e3 h
    refine rs ?_
    refine rt ?_
    refine jp (pa (has_un (x := 0#64) rfl)) rfl rfl rfl ?_
    refine j_end ?_
    obtain rfl := oi h
    exact run_ret fun a w hst => q_ret1 hst rfl (.tmp rfl) () (fun _ _ h => h) (.cons .here <| .nil)
  · replace h := bf e3 h
    refine run_skip ?_
    refine rs ?_
    refine rt ?_
    refine jp (pm (ht rfl)) rfl rfl rfl ?_
    refine jp (pa (ht rfl)) rfl rfl rfl ?_
    refine j_end ?_
    obtain rfl := oi h
    exact run_ret fun a w hst => q_ret1 hst rfl (.tmp rfl) () (fun _ _ h => h) (.cons .here <| .nil)
set_option maxRecDepth 100000 in
set_option maxHeartbeats 4000000 in
theorem c_wire_Reader_U32 {G : GP} {p_r : (List (BitVec 8)) × Bool} {b_r : Nat} {r : ((List (BitVec 8)) × Bool) × (BitVec 32)} (h : wire_Reader_U32 p_r = some r) : Ctr Tryd.prog G 31 [val (.pointer (some ⟨b_r, 0, none⟩))] [box b_r 98 (prod (sl u8) bl) (p_r.1, p_r.2)] (fun (_ : Unit) => u32.slot r.2) (fun (_ : Unit) => [box b_r 98 (prod (sl u8) bl) (r.1.1, r.1.2)]) := by
  unfold wire_Reader_U32 at h
  refine ctr_of_run Tryd.func31 rfl 6 rfl rfl fun m0 w0 b0 => ?_
  show Run _ _ _ [(0, val (.pointer (some ⟨b_r, 0, none⟩)))] _
  refine rs ?_
  refine rt ?_
  refine jp (pa (has_un (x := 0#32) rfl)) rfl rfl rfl ?_
  refine j_end ?_
  refine rs ?_
  refine rt ?_
  refine jp (pm (ht rfl)) rfl rfl rfl ?_
  obtain ⟨r1, e1, h⟩ := bind_some h
  refine j_call (hc (ht rfl) <| hc has_i64 <| hasL_nil) (by kernel_rfl) (c_wire_Reader_number e1) (.cons .here <| .nil) rfl fun _ => ?_
  refine jp (pj_conv_uu (k := .u32) (b := 32) rfl rfl (by kernel_rfl) (ht rfl)) rfl rfl rfl ?_
  refine jp (pa (ht rfl)) rfl rfl rfl ?_
  refine j_end ?_
  obtain rfl := oi h
  exact run_ret fun a w hst => q_ret1 hst rfl (.tmp rfl) () (fun _ _ h => h) (.cons .here <| .nil)
set_option maxRecDepth 100000 in
set_option maxHeartbeats 4000000 in
theorem c_wire_Reader_Plain {G : GP} {p_r : (List (BitVec 8)) × Bool} {p_n : Int} {b_r : Nat} {r : ((List (BitVec 8)) × Bool) × (List (BitVec 8))} (h : wire_Reader_Plain p_r p_n = some r) : Ctr Tryd.prog G 32 [val (.pointer (some ⟨b_r, 0, none⟩)), i64.slot p_n] [box b_r 98 (prod (sl u8) bl) (p_r.1, p_r.2)] (fun (_ : Unit) => (sl u8).slot r.2) (fun (_ : Unit) => [box b_r 98 (prod (sl u8) bl) (r.1.1, r.1.2)]) := by
  unfold wire_Reader_Plain at h
  refine ctr_of_run Tryd.func32 rfl 8 rfl rfl fun m0 w0 b0 => ?_
  show Run _ _ _ [(0, val (.pointer (some ⟨b_r, 0, none⟩))), (1, i64.slot p_n)] _
  refine rs ?_
  refine rt ?_
  refine jp (pa (has_nil (R := u8))) rfl rfl rfl ?_
  refine j_end ?_
  refine rs ?_
  refine rt ?_
  refine jp (pm (ht rfl)) rfl rfl rfl ?_
  refine jp (pm (ht rfl)) rfl rfl rfl ?_
  obtain ⟨r1, e1, h⟩ := bind_some h
  refine j_call (hc (ht rfl) <| hc (ht rfl) <| hasL_nil) (by kernel_rfl) (c_wire_Reader_takes e1) (.cons .here <| .nil) rfl fun _ => ?_
  refine jp (pa (ht rfl)) rfl rfl rfl ?_
  refine j_end ?_
  obtain rfl := oi h
  exact run_ret fun a w hst => q_ret1 hst rfl (.tmp rfl) () (fun _ _ h => h) (.cons .here <| .nil)
set_option maxRecDepth 100000 in
set_option maxHeartbeats 4000000 in
theorem c_lmots_of {G : GP} (hg2 : HG2 G) {p_kind : Int} {r : T_lmots_form × Bool} (h : lmots_of p_kind = some r) : Ctr Tryd.prog G 102 [i64.slot p_kind] [] (fun (_ : Unit) => tup [R_lmots_form.slot r.1, bl.slot r.2]) (fun (_ : Unit) => []) := by
  unfold lmots_of at h
  refine ctr_of_run Tryd.func102 rfl 14 rfl rfl fun m0 w0 b0 => ?_
  show Run _ _ _ [(0, i64.slot p_kind)] _
  refine rs ?_
  refine rt ?_
  refine j_alloc (x := (0, 0, 0)) (R := R_lmots_form) (zero_prod zero_i64 (zero_prod zero_i64 zero_i64)) (by kernel_rfl) rfl fun b1 => ?_
  refine jp (pa has_bl) rfl rfl rfl ?_
  refine j_end ?_
  refine rs ?_
  refine rs ?_
  refine rt ?_
  refine jp (pm (ht rfl)) rfl rfl rfl ?_
  refine jp (pj_ilss (ht rfl) has_i64) rfl rfl rfl ?_
  refine jp (pm (ht rfl)) rfl rfl rfl ?_
  obtain ⟨y1, e2, h⟩ := bind_some h
  refine j_joinx (ι := Unit) (Γ' := fun _ => [(0, i64.slot p_kind), (2, val (.pointer (some ⟨b1, 0, none⟩))), (9, bl.slot y1)]) (H' := fun _ => [box b1 157 R_lmots_form (0, 0, 0)]) 3 ?_ fun J => ?_
  · intro _
    clear e2
    show OpsJ _ _ _ [(0, i64.slot p_kind), (2, val (.pointer (some ⟨b1, 0, none⟩))), (9, bl.slot y1)] [box b1 157 R_lmots_form (0, 0, 0)] _
    refine j_end ?_
    refine run_cond (ht rfl) (fun e3 => ?_) (fun e3 => ?_)
    · replace h := bt e3 h
      refine rs ?_
      refine rt ?_
      refine jp (pj_build (R := R_lmots_form) (zero_prod zero_i64 (zero_prod zero_i64 zero_i64)) (by kernel_rfl) (by kernel_rfl) rfl .nil) rfl rfl rfl ?_
      refine j_store_boxx (r' := (0, 0, 0)) (ht rfl) (ht rfl) .here (Path.all R_lmots_form) (by kernel_rfl) rfl ?_
      refine jp (pa has_bl) rfl rfl rfl ?_
      refine j_end ?_
      obtain rfl := oi h
      exact run_ret fun a w hst => q_retN hst rfl (.cons (.cell rfl .here (by kernel_rfl)) <| .cons (.tmp rfl) <| .nil) rfl () (fun _ _ h => h) (.nil)
    · replace h := bf e3 h
      refine run_skip ?_
      refine rs ?_
      refine rt ?_
      refine jp (pm (ht rfl)) rfl rfl rfl ?_
      obtain ⟨x1, e4, h⟩ := bind_some h
      refine jp (pj_index_gx (v := G_lmots_forms) hg2 (ht rfl) isInt_i64 e4 (by kernel_rfl)) rfl rfl rfl ?_
      refine jp (pl (ht rfl) (by kernel_rfl)) rfl rfl rfl ?_
      refine j_store_boxx (r' := x1) (ht rfl) (ht rfl) .here (Path.all R_lmots_form) (by kernel_rfl) rfl ?_
      refine jp (pa has_bl) rfl rfl rfl ?_
      refine j_end ?_
      obtain rfl := oi h
      exact run_ret fun a w hst => q_retN hst rfl (.cons (.cell rfl .here (by kernel_rfl)) <| .cons (.tmp rfl) <| .nil) rfl () (fun _ _ h => h) (.nil)
  · rcases bool_tf (decide (p_kind < (1 : Int))) with e1 | e1
    · replace e2 := bt e1 e2
      refine j_guard_no2 (j := 2) (want := false) rfl rfl rfl rfl (bl_isx e1) rfl rfl rfl ?_
      refine j_guard_no2 (j := 2) (want := false) rfl rfl rfl rfl (bl_isx e1) rfl rfl rfl ?_
      refine jp (PJ.eqv (R := bl) (pj_pick (t := any) (ht rfl) (fun _ => has_bl) (fun he => absurd (e1.symm.trans he) (by decide))) (oi e2)) rfl rfl rfl ?_
      exact j_to (.cons (.of_lk rfl) <| .cons (.of_lk rfl) <| .cons (.of_lk rfl) <| .nil) (.cons .here <| .nil) (J ())
    · replace e2 := bf e1 e2
      refine jy (pm (ht rfl)) rfl rfl rfl rfl (bl_isx e1) rfl rfl ?_
      refine jy (pj_igtr (ht rfl) has_i64) rfl rfl rfl rfl (bl_isx e1) rfl rfl ?_
      refine jp (PJ.eqv (R := bl) (pj_pick (t := any) (ht rfl) (fun he => absurd (e1.symm.trans he) (by decide)) (fun _ => (ht rfl))) (oi e2)) rfl rfl rfl ?_
      exact j_to (.cons (.of_lk rfl) <| .cons (.of_lk rfl) <| .cons (.of_lk rfl) <| .nil) (.cons .here <| .nil) (J ())
set_option maxRecDepth 100000 in
set_option maxHeartbeats 4000000 in
theorem c_lmots_Chains {G : GP} (hg2 : HG2 G) {p_kind : Int} {r : Int} (h : lmots_Chains p_kind = some r) : Ctr Tryd.prog G 101 [i64.slot p_kind] [] (fun (_ : Unit) => i64.slot r) (fun (_ : Unit) => []) := by
  unfold lmots_Chains at h
  refine ctr_of_run Tryd.func101 rfl 12 rfl rfl fun m0 w0 b0 => ?_
  show Run _ _ _ [(0, i64.slot p_kind)] _
  refine rs ?_
  refine rt ?_
  refine jp (pa has_i64) rfl rfl rfl ?_
  refine j_end ?_
  refine rs ?_
  refine rt ?_
  refine jp (pm (ht rfl)) rfl rfl rfl ?_
  obtain ⟨r1, e1, h⟩ := bind_some h
  refine jp (pj_call (hc (ht rfl) <| hasL_nil) (by kernel_rfl) (c_lmots_of hg2 e1)) rfl rfl rfl ?_
  refine jp (pm (ht rfl)) rfl rfl rfl ?_
  refine jp (pj_extract (ht rfl) rfl) rfl rfl rfl ?_
  refine jp (pj_extract (ht rfl) rfl) rfl rfl rfl ?_
  refine j_alloc (x := (0, 0, 0)) (R := R_lmots_form) (zero_prod zero_i64 (zero_prod zero_i64 zero_i64)) (by kernel_rfl) rfl fun b1 => ?_
  refine j_store_boxx (r' := r1.1) (ht rfl) (ht rfl) .here (Path.all R_lmots_form) (by kernel_rfl) rfl ?_
  refine j_freezeTo (t := 3) .here (.of_lk rfl) ?_
  refine jp (pa (ht rfl)) rfl rfl rfl ?_
  refine j_end ?_
  refine rs ?_
  refine rt ?_
  refine jp (pj_field_to (ht rfl) (Path.then (Path.snd i64 (prod i64 i64)) (Path.fst i64 i64)) (by kernel_rfl)) rfl rfl rfl ?_
  refine jp (pl (ht rfl) (by kernel_rfl)) rfl rfl rfl ?_
  refine jp (pa (ht rfl)) rfl rfl rfl ?_
  refine j_end ?_
  obtain rfl := oi h
  exact run_ret fun a w hst => q_ret1 hst rfl (.tmp rfl) () (fun _ _ h => h) (.nil)
set_option maxRecDepth 100000 in
set_option maxHeartbeats 4000000 in
theorem c_lms_may {G : GP} (hg2 : HG2 G) {p_height : Int} {p_kind : Int} {r : Bool} (h : lms_may p_height p_kind = some r) : Ctr Tryd.prog G 75 [i64.slot p_height, i64.slot p_kind] [] (fun (_ : Unit) => bl.slot r) (fun (_ : Unit) => []) := by
  unfold lms_may at h
  refine ctr_of_run Tryd.func75 rfl 16 rfl rfl fun m0 w0 b0 => ?_
  show Run _ _ _ [(0, i64.slot p_height), (1, i64.slot p_kind)] _
  refine rs ?_
  refine rt ?_
  refine jp (pa has_bl) rfl rfl rfl ?_
  refine j_end ?_
  refine rs ?_
  refine rt ?_
  refine jp (pm (ht rfl)) rfl rfl rfl ?_
  refine jp (pj_igeq (ht rfl) has_i64) rfl rfl rfl ?_
  refine jp (pm (ht rfl)) rfl rfl rfl ?_
  obtain ⟨y1, e2, h⟩ := bind_some h
  refine j_joinx (ι := Unit) (Γ' := fun _ => [(1, i64.slot p_kind), (10, bl.slot y1)]) (H' := fun _ => []) 3 ?_ fun J => ?_
  · intro _
    clear e2
    show OpsJ _ _ _ [(1, i64.slot p_kind), (10, bl.slot y1)] [] _
    refine jp (pm (ht rfl)) rfl rfl rfl ?_
    obtain ⟨y2, e4, h⟩ := bind_some h
    refine j_joinx (ι := Unit) (Γ' := fun _ => [(15, bl.slot y2)]) (H' := fun _ => []) 4 ?_ fun J => ?_
    · intro _
      clear e4
      show OpsJ _ _ _ [(15, bl.slot y2)] [] _
      refine jp (pa (ht rfl)) rfl rfl rfl ?_
      refine j_end ?_
      obtain rfl := oi h
      exact run_ret fun a w hst => q_ret1 hst rfl (.tmp rfl) () (fun _ _ h => h) (.nil)
    · rcases bool_tf (y1) with e3 | e3
      · replace e4 := bt e3 e4
        refine jy (pm (ht rfl)) rfl rfl rfl rfl (bl_isx e3) rfl rfl ?_
        obtain ⟨r1, e5, e4⟩ := bind_some e4
        refine jy (pj_call (hc (ht rfl) <| hasL_nil) (by kernel_rfl) (c_lmots_Chains hg2 e5)) rfl rfl rfl rfl (bl_isx e3) rfl rfl ?_
        refine jy (pj_igtr (ht rfl) has_i64) rfl rfl rfl rfl (bl_isx e3) rfl rfl ?_
        refine jp (PJ.eqv (R := bl) (pj_pick (t := any) (ht rfl) (fun _ => (ht rfl)) (fun he => absurd (e3.symm.trans he) (by decide))) (oi e4)) rfl rfl rfl ?_
        exact j_to (.cons (.of_lk rfl) <| .nil) (.nil) (J ())
      · replace e4 := bf e3 e4
        refine j_guard_no2 (j := 6) (want := true) rfl rfl rfl rfl (bl_isx e3) rfl rfl rfl ?_
        refine j_guard_no2 (j := 6) (want := true) rfl rfl rfl rfl (bl_isx e3) rfl rfl rfl ?_
        refine j_guard_no2 (j := 6) (want := true) rfl rfl rfl rfl (bl_isx e3) rfl rfl rfl ?_
        refine jp (PJ.eqv (R := bl) (pj_pick (t := any) (ht rfl) (fun he => absurd (e3.symm.trans he) (by decide)) (fun _ => has_bl)) (oi e4)) rfl rfl rfl ?_
        exact j_to (.cons (.of_lk rfl) <| .nil) (.nil) (J ())
  · rcases bool_tf (decide ((1 : Int) ≤ p_height)) with e1 | e1
    · replace e2 := bt e1 e2
      refine jy (pm (ht rfl)) rfl rfl rfl rfl (bl_isx e1) rfl rfl ?_
      refine jy (pj_ileq (ht rfl) has_i64) rfl rfl rfl rfl (bl_isx e1) rfl rfl ?_
      refine jp (PJ.eqv (R := bl) (pj_pick (t := any) (ht rfl) (fun _ => (ht rfl)) (fun he => absurd (e1.symm.trans he) (by decide))) (oi e2)) rfl rfl rfl ?_
      exact j_to (.cons (.of_lk rfl) <| .cons (.of_lk rfl) <| .nil) (.nil) (J ())
    · replace e2 := bf e1 e2
      refine j_guard_no2 (j := 2) (want := true) rfl rfl rfl rfl (bl_isx e1) rfl rfl rfl ?_
      refine j_guard_no2 (j := 2) (want := true) rfl rfl rfl rfl (bl_isx e1) rfl rfl rfl ?_
      refine jp (PJ.eqv (R := bl) (pj_pick (t := any) (ht rfl) (fun he => absurd (e1.symm.trans he) (by decide)) (fun _ => has_bl)) (oi e2)) rfl rfl rfl ?_
      exact j_to (.cons (.of_lk rfl) <| .cons (.of_lk rfl) <| .nil) (.nil) (J ())
set_option maxRecDepth 100000 in
set_option maxHeartbeats 4000000 in
theorem c_lmots_Size {G : GP} (hg2 : HG2 G) {p_kind : Int} {r : Int} (h : lmots_Size p_kind = some r) : Ctr Tryd.prog G 76 [i64.slot p_kind] [] (fun (_ : Unit) => i64.slot r) (fun (_ : Unit) => []) := by
  unfold lmots_Size at h
  refine ctr_of_run Tryd.func76 rfl 17 rfl rfl fun m0 w0 b0 => ?_
  show Run _ _ _ [(0, i64.slot p_kind)] _
  refine rs ?_
  refine rt ?_
  refine jp (pa has_i64) rfl rfl rfl ?_
  refine j_end ?_
  refine rs ?_
  refine rt ?_
  refine jp (pm (ht rfl)) rfl rfl rfl ?_
  obtain ⟨r1, e1, h⟩ := bind_some h
  refine jp (pj_call (hc (ht rfl) <| hasL_nil) (by kernel_rfl) (c_lmots_of hg2 e1)) rfl rfl rfl ?_
  refine jp (pm (ht rfl)) rfl rfl rfl ?_
  refine jp (pj_extract (ht rfl) rfl) rfl rfl rfl ?_
  refine jp (pj_extract (ht rfl) rfl) rfl rfl rfl ?_
  refine j_alloc (x := (0, 0, 0)) (R := R_lmots_form) (zero_prod zero_i64 (zero_prod zero_i64 zero_i64)) (by kernel_rfl) rfl fun b1 => ?_
  refine j_store_boxx (r' := r1.1) (ht rfl) (ht rfl) .here (Path.all R_lmots_form) (by kernel_rfl) rfl ?_
  refine j_freezeTo (t := 3) .here (.of_lk rfl) ?_
  refine jp (pa (ht rfl)) rfl rfl rfl ?_
  refine j_end ?_
  refine rs ?_
  refine rs ?_
  refine rt ?_
  refine jp (pm (ht rfl)) rfl rfl rfl ?_
  refine jp (pj_not (ht rfl)) rfl rfl rfl ?_
  refine j_end ?_
  refine run_cond (ht rfl) (fun e2 => ?_) (fun e2 => ?_)
  · replace h := bt e2 h
    refine rs ?_
    refine rt ?_
    refine jp (pa has_i64) rfl rfl rfl ?_
    refine j_end ?_
    obtain rfl := oi h
    exact run_ret fun a w hst => q_ret1 hst rfl (.tmp rfl) () (fun _ _ h => h) (.nil)
  · replace h := bf e2 h
    refine run_skip ?_
    refine rs ?_
    refine rt ?_
    refine jp (pj_field_to (ht rfl) (Path.then (Path.snd i64 (prod i64 i64)) (Path.fst i64 i64)) (by kernel_rfl)) rfl rfl rfl ?_
    refine jp (pl (ht rfl) (by kernel_rfl)) rfl rfl rfl ?_
    refine jp (pj_iadd has_i64 (ht rfl)) rfl rfl rfl ?_
    refine jp (pj_imul has_i64 (ht rfl)) rfl rfl rfl ?_
    refine jp (pj_iadd has_i64 (ht rfl)) rfl rfl rfl ?_
    obtain ⟨x1, e3, h⟩ := bind_some h
    refine jp (PJ.eqv (pa (ht rfl)) (oi e3)) rfl rfl rfl ?_
    refine j_end ?_
    obtain rfl := oi h
    exact run_ret fun a w hst => q_ret1 hst rfl (.tmp rfl) () (fun _ _ h => h) (.nil)
set_option maxRecDepth 100000 in
set_option maxHeartbeats 4000000 in
theorem c_lms_Size {G : GP} (hg2 : HG2 G) {p_height : Int} {p_kind : Int} {r : Int} (h : lms_Size p_height p_kind = some r) : Ctr Tryd.prog G 53 [i64.slot p_height, i64.slot p_kind] [] (fun (_ : Unit) => i64.slot r) (fun (_ : Unit) => []) := by
  unfold lms_Size at h
  refine ctr_of_run Tryd.func53 rfl 15 rfl rfl fun m0 w0 b0 => ?_
  show Run _ _ _ [(0, i64.slot p_height), (1, i64.slot p_kind)] _
  refine rs ?_
  refine rt ?_
  refine jp (pa has_i64) rfl rfl rfl ?_
  refine j_end ?_
  refine rs ?_
  refine rs ?_
  refine rt ?_
  refine jp (pm (ht rfl)) rfl rfl rfl ?_
  refine jp (pm (ht rfl)) rfl rfl rfl ?_
  obtain ⟨r1, e1, h⟩ := bind_some h
  refine jp (pj_call (hc (ht rfl) <| hc (ht rfl) <| hasL_nil) (by kernel_rfl) (c_lms_may hg2 e1)) rfl rfl rfl ?_
  refine jp (pj_not (ht rfl)) rfl rfl rfl ?_
  refine j_end ?_
  refine run_cond (ht rfl) (fun e2 => ?_) (fun e2 => ?_)
  · replace h := bt e2 h
    refine rs ?_
    refine rt ?_
    refine jp (pa has_i64) rfl rfl rfl ?_
    refine j_end ?_
    obtain rfl := oi h
    exact run_ret fun a w hst => q_ret1 hst rfl (.tmp rfl) () (fun _ _ h => h) (.nil)
  · replace h := bf e2 h
    refine run_skip ?_
    refine rs ?_
    refine rt ?_
    refine jp (pm (ht rfl)) rfl rfl rfl ?_
    obtain ⟨r2, e3, h⟩ := bind_some h
    refine jp (pj_call (hc (ht rfl) <| hasL_nil) (by kernel_rfl) (c_lmots_Size hg2 e3)) rfl rfl rfl ?_
    refine jp (pj_iadd has_i64 (ht rfl)) rfl rfl rfl ?_
    refine jp (pm (ht rfl)) rfl rfl rfl ?_
    refine jp (pj_imul has_i64 (ht rfl)) rfl rfl rfl ?_
    refine jp (pj_iadd (ht rfl) (ht rfl)) rfl rfl rfl ?_
    obtain ⟨x1, e4, h⟩ := bind_some h
    refine jp (PJ.eqv (pa (ht rfl)) (oi e4)) rfl rfl rfl ?_
    refine j_end ?_
    obtain rfl := oi h
    exact run_ret fun a w hst => q_ret1 hst rfl (.tmp rfl) () (fun _ _ h => h) (.nil)
set_option maxRecDepth 100000 in
set_option maxHeartbeats 4000000 in
theorem c_wire_Reader_Left {G : GP} {p_r : (List (BitVec 8)) × Bool} {b_r : Nat} {c_r : List Value} {r : Int} (h : wire_Reader_Left p_r = some r) : Ctr Tryd.prog G 54 [val (.pointer (some ⟨b_r, 0, none⟩))] [box b_r 98 (exr (prod (sl u8) bl) c_r) (p_r.1, p_r.2)] (fun (_ : Unit) => i64.slot r) (fun (_ : Unit) => [box b_r 98 (exr (prod (sl u8) bl) c_r) (p_r.1, p_r.2)]) := by
  unfold wire_Reader_Left at h
  refine ctr_of_run Tryd.func54 rfl 10 rfl rfl fun m0 w0 b0 => ?_
  show Run _ _ _ [(0, val (.pointer (some ⟨b_r, 0, none⟩)))] _
  refine rs ?_
  refine rt ?_
  refine jp (PJ.xw (.ex .refl) (pa has_i64)) rfl rfl rfl ?_
  refine j_end ?_
  refine rs ?_
  refine rs ?_
  refine rt ?_
  refine jp (PJ.xw (.ex .refl) (pm (ht rfl))) rfl rfl rfl ?_
  refine jp (PJ.xw (.ex .refl) (pj_eq_nil_val (E := 98) (by kernel_rfl) (ht rfl))) rfl rfl rfl ?_
  refine j_end ?_
  refine run_cond_f (ht rfl) rfl ?_
  refine run_skip ?_
  refine rs ?_
  refine rt ?_
  refine jp (PJ.xw (.ex .refl) (pm (ht rfl))) rfl rfl rfl ?_
  refine jp (PJ.xw (.ex .refl) (pj_nilCheck_ptr (ht rfl))) rfl rfl rfl ?_
  refine jp (PJ.xw (.ex .refl) (pj_field_ptr (off := 0) (ht rfl) (by kernel_rfl))) rfl rfl rfl ?_
  refine jp (PJ.xw (.ex .refl) (pj_load_box (ht rfl) .here (Path.then (Path.all (prod (sl u8) bl)) (Path.fst (sl u8) bl)) (by kernel_rfl))) rfl rfl rfl ?_
  refine jp (PJ.xw (.ex .refl) (pj_len_sl (sz := 1) (ht rfl) (by kernel_rfl))) rfl rfl rfl ?_
  refine jp (PJ.xw (.ex .refl) (pa (ht rfl))) rfl rfl rfl ?_
  refine j_end ?_
  obtain rfl := oi h
  exact run_ret fun a w hst => q_ret1 hst rfl (.tmp rfl) () (fun _ _ h => h) (.cons .here <| .nil)
set_option maxRecDepth 100000 in
set_option maxHeartbeats 4000000 in
theorem c_wire_Reader_Fails {G : GP} {p_r : (List (BitVec 8)) × Bool} {b_r : Nat} {c_r : List Value} {r : Bool} (h : wire_Reader_Fails p_r = some r) : Ctr Tryd.prog G 55 [val (.pointer (some ⟨b_r, 0, none⟩))] [box b_r 98 (exr (prod (sl u8) bl) c_r) (p_r.1, p_r.2)] (fun (_ : Unit) => bl.slot r) (fun (_ : Unit) => [box b_r 98 (exr (prod (sl u8) bl) c_r) (p_r.1, p_r.2)]) := by
  unfold wire_Reader_Fails at h
  refine ctr_of_run Tryd.func55 rfl 11 rfl rfl fun m0 w0 b0 => ?_
  show Run _ _ _ [(0, val (.pointer (some ⟨b_r, 0, none⟩)))] _
  refine rs ?_
  refine rt ?_
  refine jp (PJ.xw (.ex .refl) (pa has_bl)) rfl rfl rfl ?_
  refine j_end ?_
  refine rs ?_
  refine rt ?_
  refine jp (PJ.xw (.ex .refl) (pm (ht rfl))) rfl rfl rfl ?_
  refine jp (PJ.xw (.ex .refl) (pj_eq_nil_val (E := 98) (by kernel_rfl) (ht rfl))) rfl rfl rfl ?_
  refine jp (PJ.xw (.ex .refl) (pm (ht rfl))) rfl rfl rfl ?_
  obtain ⟨y1, e2, h⟩ := bind_some h
  refine j_joinx (ι := Unit) (Γ' := fun _ => [(10, bl.slot y1)]) (H' := fun _ => [box b_r 98 (exr (prod (sl u8) bl) c_r) (p_r.1, p_r.2)]) 5 ?_ fun J => ?_
  · intro _
    clear e2
    show OpsJ _ _ _ [(10, bl.slot y1)] [box b_r 98 (exr (prod (sl u8) bl) c_r) (p_r.1, p_r.2)] _
    refine jp (PJ.xw (.ex .refl) (pa (ht rfl))) rfl rfl rfl ?_
    refine j_end ?_
    obtain rfl := oi h
    exact run_ret fun a w hst => q_ret1 hst rfl (.tmp rfl) () (fun _ _ h => h) (.cons .here <| .nil)
  · have e1 : (false) = false := rfl
    refine jy (PJ.xw (.ex .refl) (pm (ht rfl))) rfl rfl rfl rfl (bl_isx e1) rfl rfl ?_
    refine jy (PJ.xw (.ex .refl) (pj_nilCheck_ptr (ht rfl))) rfl rfl rfl rfl (bl_isx e1) rfl rfl ?_
    refine jy (PJ.xw (.ex .refl) (pj_field_ptr (off := 1) (ht rfl) (by kernel_rfl))) rfl rfl rfl rfl (bl_isx e1) rfl rfl ?_
    refine jy (PJ.xw (.ex .refl) (pj_load_box (ht rfl) .here (Path.then (Path.all (prod (sl u8) bl)) (Path.snd (sl u8) bl)) (by kernel_rfl))) rfl rfl rfl rfl (bl_isx e1) rfl rfl ?_
    refine jp (PJ.eqv (R := bl) (pj_pick (t := any) (ht rfl) (fun he => absurd (e1.symm.trans he) (by decide)) (fun _ => (ht rfl))) (oi e2)) rfl rfl rfl ?_
    exact j_to (.cons (.of_lk rfl) <| .nil) (.cons .here <| .nil) (J ())
set_option maxRecDepth 100000 in
set_option maxHeartbeats 4000000 in
theorem c_wire_Reader_Done {G : GP} {p_r : (List (BitVec 8)) × Bool} {b_r : Nat} {c_r : List Value} {r : Bool} (h : wire_Reader_Done p_r = some r) : Ctr Tryd.prog G 103 [val (.pointer (some ⟨b_r, 0, none⟩))] [box b_r 98 (exr (prod (sl u8) bl) c_r) (p_r.1, p_r.2)] (fun (_ : Unit) => bl.slot r) (fun (_ : Unit) => [box b_r 98 (exr (prod (sl u8) bl) c_r) (p_r.1, p_r.2)]) := by
  unfold wire_Reader_Done at h
  refine ctr_of_run Tryd.func103 rfl 11 rfl rfl fun m0 w0 b0 => ?_
  show Run _ _ _ [(0, val (.pointer (some ⟨b_r, 0, none⟩)))] _
  refine rs ?_
  refine rt ?_
  refine jp (PJ.xw (.ex .refl) (pa has_bl)) rfl rfl rfl ?_
  refine j_end ?_
  refine rs ?_
  refine rt ?_
  refine jp (PJ.xw (.ex .refl) (pm (ht rfl))) rfl rfl rfl ?_
  obtain ⟨r1, e1, h⟩ := bind_some h
  refine jp (PJ.xw (.ex .refl) (pj_callR (hc (ht rfl) <| hasL_nil) .here (by kernel_rfl) (fun _ => (c_wire_Reader_Fails e1)))) rfl rfl rfl ?_
  refine jp (PJ.xw (.ex .refl) (pj_not (ht rfl))) rfl rfl rfl ?_
  refine jp (PJ.xw (.ex .refl) (pm (ht rfl))) rfl rfl rfl ?_
  obtain ⟨y1, e3, h⟩ := bind_some h
  refine j_joinx (ι := Unit) (Γ' := fun _ => [(10, bl.slot y1)]) (H' := fun _ => [box b_r 98 (exr (prod (sl u8) bl) c_r) (p_r.1, p_r.2)]) 4 ?_ fun J => ?_
  · intro _
    clear e3
    show OpsJ _ _ _ [(10, bl.slot y1)] [box b_r 98 (exr (prod (sl u8) bl) c_r) (p_r.1, p_r.2)] _
    refine jp (PJ.xw (.ex .refl) (pa (ht rfl))) rfl rfl rfl ?_
    refine j_end ?_
    obtain rfl := oi h
    exact run_ret fun a w hst => q_ret1 hst rfl (.tmp rfl) () (fun _ _ h => h) (.cons .here <| .nil)
  · rcases bool_tf (!r1) with e2 | e2
    · replace e3 := bt e2 e3
      refine jy (PJ.xw (.ex .refl) (pm (ht rfl))) rfl rfl rfl rfl (bl_isx e2) rfl rfl ?_
      obtain ⟨r2, e4, e3⟩ := bind_some e3
      refine jy (PJ.xw (.ex .refl) (pj_callR (hc (ht rfl) <| hasL_nil) .here (by kernel_rfl) (fun _ => (c_wire_Reader_Left e4)))) rfl rfl rfl rfl (bl_isx e2) rfl rfl ?_
      refine jy (PJ.xw (.ex .refl) (pj_ieql (ht rfl) has_i64)) rfl rfl rfl rfl (bl_isx e2) rfl rfl ?_
      refine jp (PJ.eqv (R := bl) (pj_pick (t := any) (ht rfl) (fun _ => (ht rfl)) (fun he => absurd (e2.symm.trans he) (by decide))) (oi e3)) rfl rfl rfl ?_
      exact j_to (.cons (.of_lk rfl) <| .nil) (.cons .here <| .nil) (J ())
    · replace e3 := bf e2 e3
      refine j_guard_no2 (j := 3) (want := true) rfl rfl rfl rfl (bl_isx e2) rfl rfl rfl ?_
      refine j_guard_no2 (j := 3) (want := true) rfl rfl rfl rfl (bl_isx e2) rfl rfl rfl ?_
      refine j_guard_no2 (j := 3) (want := true) rfl rfl rfl rfl (bl_isx e2) rfl rfl rfl ?_
      refine jp (PJ.eqv (R := bl) (pj_pick (t := any) (ht rfl) (fun he => absurd (e2.symm.trans he) (by decide)) (fun _ => has_bl)) (oi e3)) rfl rfl rfl ?_
      exact j_to (.cons (.of_lk rfl) <| .nil) (.cons .here <| .nil) (J ())
set_option maxRecDepth 100000 in
set_option maxHeartbeats 4000000 in
theorem c_lms_parted {G : GP} (hg2 : HG2 G) {p_b : List (BitVec 8)} {p_height : Int} {p_kind : Int} {r : T_lms_signature × Bool} (h : lms_parted p_b p_height p_kind = some r) : Ctr Tryd.prog G 77 [(sl u8).slot p_b, i64.slot p_height, i64.slot p_kind] [] (fun (_ : Unit) => tup [R_lms_signature.slot r.1, bl.slot r.2]) (fun (_ : Unit) => []) := by
  unfold lms_parted at h
  refine ctr_of_run Tryd.func77 rfl 68 rfl rfl fun m0 w0 b0 => ?_
  show Run _ _ _ [(0, (sl u8).slot p_b), (1, i64.slot p_height), (2, i64.slot p_kind)] _
  refine rs ?_
  refine rt ?_
  refine j_alloc (x := (0, ([] : List (BitVec 8)), ([] : List T_api_Hash))) (R := R_lms_signature) (zero_prod zero_i64 (zero_prod zero_sl zero_sl)) (by kernel_rfl) rfl fun b1 => ?_
  refine jp (pa has_bl) rfl rfl rfl ?_
  refine j_end ?_
  refine rs ?_
  refine rs ?_
  refine rt ?_
  refine jp (pm (ht rfl)) rfl rfl rfl ?_
  refine jp (pj_len_sl (sz := 1) (ht rfl) (by kernel_rfl)) rfl rfl rfl ?_
  refine jp (pm (ht rfl)) rfl rfl rfl ?_
  refine jp (pm (ht rfl)) rfl rfl rfl ?_
  obtain ⟨r1, e1, h⟩ := bind_some h
  refine jp (pj_call (hc (ht rfl) <| hc (ht rfl) <| hasL_nil) (by kernel_rfl) (c_lms_Size hg2 e1)) rfl rfl rfl ?_
  refine jp (pj_ineq (ht rfl) (ht rfl)) rfl rfl rfl ?_
  refine j_end ?_
  refine run_cond (ht rfl) (fun e2 => ?_) (fun e2 => ?_)
  · replace h := bt e2 h
    refine rs ?_
    refine rt ?_
    refine jp (pj_build (R := R_lms_signature) (zero_prod zero_i64 (zero_prod zero_sl zero_sl)) (by kernel_rfl) (by kernel_rfl) rfl .nil) rfl rfl rfl ?_
    obtain ⟨x1, e3, h⟩ := bind_some h
    refine j_store_boxx (r' := x1) (ht rfl) (ht rfl) .here (Path.all R_lms_signature) (by kernel_rfl) (oi e3) ?_
    refine jp (pa has_bl) rfl rfl rfl ?_
    refine j_end ?_
    obtain rfl := oi h
    exact run_ret fun a w hst => q_retN hst rfl (.cons (.cell rfl .here (by kernel_rfl)) <| .cons (.tmp rfl) <| .nil) rfl () (fun _ _ h => h) (.nil)
  · replace h := bf e2 h
    refine run_skip ?_
    refine rs ?_
    refine rt ?_
    refine jp (pm (ht rfl)) rfl rfl rfl ?_
    obtain ⟨r2, e4, h⟩ := bind_some h
    refine j_call (hc (ht rfl) <| hasL_nil) (by kernel_rfl) (c_wire_New e4) .nil rfl fun b2 => ?_
    refine jp (pa (ht rfl)) rfl rfl rfl ?_
    refine j_end ?_
    refine rs ?_
    refine rt ?_
    refine jp (pm (ht rfl)) rfl rfl rfl ?_
    obtain ⟨r3, e5, h⟩ := bind_some h
    refine j_call (hc (ht rfl) <| hasL_nil) (by kernel_rfl) (c_wire_Reader_U32 e5) (.cons .here <| .nil) rfl fun _ => ?_
    refine jp (pj_conv_ui (by decide) (by kernel_rfl) (ht rfl)) rfl rfl rfl ?_
    refine jp (pm (ht rfl)) rfl rfl rfl ?_
    refine jp (pm (ht rfl)) rfl rfl rfl ?_
    obtain ⟨r4, e6, h⟩ := bind_some h
    refine jp (pj_call (hc (ht rfl) <| hasL_nil) (by kernel_rfl) (c_lmots_Size hg2 e6)) rfl rfl rfl ?_
    obtain ⟨r5, e7, h⟩ := bind_some h
    refine j_call (hc (ht rfl) <| hc (ht rfl) <| hasL_nil) (by kernel_rfl) (c_wire_Reader_Plain e7) (.cons .here <| .nil) rfl fun _ => ?_
    refine j_own_nil 23 R_api_Hash none (jp (pj_buildX (R := (prod i64 (prod (sl u8) (exv (.slice none 0 0))))) (x := (0, ([] : List (BitVec 8)), ())) (zero_prod zero_i64 (zero_prod zero_sl zero_exv)) (by kernel_rfl) (by kernel_rfl) rfl (.cons (ht rfl) (sx_pathx (x1 := ((r3.2.toNat : Int), ([] : List (BitVec 8)), ())) (Path.fst i64 (prod (sl u8) (exv (.slice none 0 0)))) rfl) (by kernel_rfl) (.cons (ht rfl) (sx_pathx (x1 := ((r3.2.toNat : Int), r5.2, ())) (Path.then (Path.snd i64 (prod (sl u8) (exv (.slice none 0 0)))) (Path.fst (sl u8) (exv (.slice none 0 0)))) rfl) (by kernel_rfl) .nil))) rfl rfl rfl ?_)
    refine j_alloc (x := (0, ([] : List (BitVec 8)), ())) (R := (prod i64 (prod (sl u8) (exv (.slice none 0 0))))) (zero_prod zero_i64 (zero_prod zero_sl zero_exv)) (by kernel_rfl) rfl fun b3 => ?_
    refine j_store_all (ht rfl) (ht rfl) .here (by kernel_rfl) (by kernel_rfl) ?_
    refine j_end ?_
    refine rs ?_
    refine rt ?_
    refine jp (pm (ht rfl)) rfl rfl rfl ?_
    obtain ⟨r6, e8, h⟩ := bind_some h
    refine j_call (hc (ht rfl) <| hasL_nil) (by kernel_rfl) (c_wire_Reader_U32 e8) (.cons (.next (.next .here)) <| .nil) rfl fun _ => ?_
    refine jp (pj_conv_ui (by decide) (by kernel_rfl) (ht rfl)) rfl rfl rfl ?_
    refine jp (pa (ht rfl)) rfl rfl rfl ?_
    refine j_end ?_
    refine rs ?_
    refine rs ?_
    refine rt ?_
    refine jp (pm (ht rfl)) rfl rfl rfl ?_
    refine jp (pm has_i64) rfl rfl rfl ?_
    refine j_end ?_
    obtain ⟨⟨y5, y6, y7, y8⟩, e13, h⟩ := bind_some h
    refine run_loopS (Γi := fun (i : Value) (s : Int × (List (BitVec 8)) × Bool × (List T_api_Hash)) => [(1, i64.slot p_height), (2, i64.slot p_kind), (6, val (.pointer (some ⟨b1, 0, none⟩))), (8, val (.pointer (some ⟨b2, 0, none⟩))), (9, val (.pointer (some ⟨b3, 0, none⟩))), (10, i64.slot (r6.2.toNat : Int)), (31, i64.slot p_height), (32, i64.slot s.1)]) (Hi := fun (i : Value) (s : Int × (List (BitVec 8)) × Bool × (List T_api_Hash)) => [box b2 98 (prod (sl u8) bl) (s.2.1, s.2.2.1), box b3 134 (prod i64 (prod (sl u8) (exv i))) ((r3.2.toNat : Int), r5.2, ()), own 23 R_api_Hash i s.2.2.2, box b1 134 R_lms_signature (0, ([] : List (BitVec 8)), ([] : List T_api_Hash))]) e13 (.slice none 0 0) (fun a w hst => (hst.sub (.cons (.of_lk rfl) <| .cons (.of_lk rfl) <| .cons (.of_lk rfl) <| .cons (.of_lk rfl) <| .cons (.of_lk rfl) <| .cons (.of_lk rfl) <| .cons (.of_lk rfl) <| .cons (.of_lk rfl) <| .nil)).keep (.cons .here <| .cons .here <| .cons .here <| .cons .here <| .nil)) ?_ ?_
    · clear h e13
      rintro v1 ⟨y1, y2, y3, y4⟩ lr h
      change lms_parted_L1 p_height y1 y2 y3 y4 = some _ at h
      show Run _ _ _ [(1, i64.slot p_height), (2, i64.slot p_kind), (6, val (.pointer (some ⟨b1, 0, none⟩))), (8, val (.pointer (some ⟨b2, 0, none⟩))), (9, val (.pointer (some ⟨b3, 0, none⟩))), (10, i64.slot (r6.2.toNat : Int)), (31, i64.slot p_height), (32, i64.slot y1)] [box b2 98 (prod (sl u8) bl) (y2, y3), box b3 134 (prod i64 (prod (sl u8) (exv v1))) ((r3.2.toNat : Int), r5.2, ()), own 23 R_api_Hash v1 y4, box b1 134 R_lms_signature (0, ([] : List (BitVec 8)), ([] : List T_api_Hash))]
      unfold lms_parted_L1 at h
      refine rs ?_
      refine rt ?_
      refine jp (pj_ilss (ht rfl) (ht rfl)) rfl rfl rfl ?_
      refine j_end ?_
      refine rs ?_
      refine run_cond (ht rfl) (fun e9 => ?_) (fun e9 => ?_)
      · replace h := bt e9 h
        refine run_skip ?_
        refine rs ?_
        refine run_block ?_
        obtain ⟨r7, e10, h⟩ := bind_some h
        obtain ⟨x2, e11, h⟩ := bind_some h
        refine run_keep (H' := [box b2 98 (prod (sl u8) bl) (y2, y3), box b3 134 (prod i64 (prod (sl u8) (exv v1))) ((r3.2.toNat : Int), r5.2, ()), own 23 R_api_Hash v1 y4, box b1 134 R_lms_signature (0, ([] : List (BitVec 8)), ([] : List T_api_Hash))]) (.cons .here <| .cons .here <| .cons .here <| .cons .here <| .nil) ?_
        refine run_drawL (n := 7) (H := [box b3 134 (prod i64 (prod (sl u8) (exv v1))) ((r3.2.toNat : Int), r5.2, ()), own 23 R_api_Hash v1 y4, box b1 134 R_lms_signature (0, ([] : List (BitVec 8)), ([] : List T_api_Hash))]) (Ls := [⟨[box b2 98 (prod (sl u8) bl) (y2, y3)], [(3, ⟨Unit, fun (_ : Unit) => [box b2 98 (prod (sl u8) bl) (r7.1.1, r7.1.2)], fun (_ : Unit) => [(37, (sl u8).slot r7.2)]⟩)]⟩]) (by kernel_rfl) (by kernel_rfl) (by kernel_rfl) (by kernel_rfl) (by kernel_rfl) rfl (.read rfl (.plain rfl (pj_field_ptr (off := 2) (ht rfl) (by kernel_rfl))) <| .read rfl (.plain rfl (pj_load_box (ht rfl) .here (Path.then (Path.all (prod i64 (prod (sl u8) (exv v1)))) (Path.then (Path.snd i64 (prod (sl u8) (exv v1))) (Path.snd (sl u8) (exv v1)))) (by kernel_rfl))) <| .read rfl (.plain rfl (pm (ht rfl))) <| .step 0 rfl .here (.inl rfl) (fun i => ⟨_, _, fun _ => (), (w_call (hc (ht rfl) <| hc has_i64 <| hasL_nil) (by kernel_rfl) (c_wire_Reader_Plain e10) (.cons .here <| .nil) rfl), fun _ => rfl, slotIs, dst1⟩) <| .read rfl (.plain rfl (pj_s2apx (e := 5) (ht rfl) e11 rfl (by kernel_rfl))) <| .read rfl (.plain rfl (pl (ht rfl) (by kernel_rfl))) <| .read rfl (.plain rfl (pj_buildSlice (T := 23) (R := R_api_Hash) (.cons (ht rfl) .nil) rfl (by kernel_rfl) (by kernel_rfl))) <| .nil) ?_
        rintro _
        refine j_to (Γ' := [(1, i64.slot p_height), (2, i64.slot p_kind), (6, val (.pointer (some ⟨b1, 0, none⟩))), (8, val (.pointer (some ⟨b2, 0, none⟩))), (9, val (.pointer (some ⟨b3, 0, none⟩))), (10, i64.slot (r6.2.toNat : Int)), (31, i64.slot p_height), (32, i64.slot y1), (35, ov v1), (40, (sl R_api_Hash).slot ([x2]))]) (H' := [box b2 98 (prod (sl u8) bl) (r7.1.1, r7.1.2), box b3 134 (prod i64 (prod (sl u8) (exv v1))) ((r3.2.toNat : Int), r5.2, ()), own 23 R_api_Hash v1 y4, box b1 134 R_lms_signature (0, ([] : List (BitVec 8)), ([] : List T_api_Hash))]) (.cons (.of_lk rfl) <| .cons (.of_lk rfl) <| .cons (.of_lk rfl) <| .cons (.of_lk rfl) <| .cons (.of_lk rfl) <| .cons (.of_lk rfl) <| .cons (.of_lk rfl) <| .cons (.of_lk rfl) <| .cons (.of_lk rfl) <| .cons (.of_lk rfl) <| .nil) (.cons .here <| .cons .here <| .cons .here <| .cons .here <| .nil) ?_
        obtain ⟨e12, h⟩ := grd_some h
        refine j_append (T := 23) (E := 23) (ht rfl) (.next (.next .here)) (src_data (ht rfl)) (by kernel_rfl) (by kernel_rfl) e12 rfl fun v2 => ?_
        refine jp (pj_field_ptr (off := 2) (ht rfl) (by kernel_rfl)) rfl rfl rfl ?_
        refine j_store_se ((r3.2.toNat : Int), r5.2, ()) (ht rfl) (ht rfl) (.next (.next .here)) (se_snd i64 (r3.2.toNat : Int) (se_snd (sl u8) r5.2 se_here)) (by kernel_rfl) ?_
        refine j_end ?_
        refine run_endblock ?_
        refine rt ?_
        refine jp (pj_iadd (ht rfl) has_i64) rfl rfl rfl ?_
        refine jp (pm (ht rfl)) rfl rfl rfl ?_
        refine j_end ?_
        obtain rfl := oi h
        exact run_next v2 (.cons (.of_lk rfl) <| .cons (.of_lk rfl) <| .cons (.of_lk rfl) <| .cons (.of_lk rfl) <| .cons (.of_lk rfl) <| .cons (.of_lk rfl) <| .cons (.of_lk rfl) <| .cons (.of_lk rfl) <| .nil) (.cons (.next (.next .here)) <| .cons .here <| .cons .here <| .cons .here <| .nil)
      · replace h := bf e9 h
        obtain rfl := oi h
        exact run_brk v1 (.cons (.of_lk rfl) <| .cons (.of_lk rfl) <| .cons (.of_lk rfl) <| .cons (.of_lk rfl) <| .cons (.of_lk rfl) <| .cons (.of_lk rfl) <| .cons (.of_lk rfl) <| .cons (.of_lk rfl) <| .nil) (.cons .here <| .cons .here <| .cons .here <| .cons .here <| .nil)
    · rintro v3
      show Run _ _ _ [(1, i64.slot p_height), (2, i64.slot p_kind), (6, val (.pointer (some ⟨b1, 0, none⟩))), (8, val (.pointer (some ⟨b2, 0, none⟩))), (9, val (.pointer (some ⟨b3, 0, none⟩))), (10, i64.slot (r6.2.toNat : Int)), (31, i64.slot p_height), (32, i64.slot y5)] [box b2 98 (prod (sl u8) bl) (y6, y7), box b3 134 (prod i64 (prod (sl u8) (exv v3))) ((r3.2.toNat : Int), r5.2, ()), own 23 R_api_Hash v3 y8, box b1 134 R_lms_signature (0, ([] : List (BitVec 8)), ([] : List T_api_Hash))]
      refine run_to (Γ' := [(1, i64.slot p_height), (2, i64.slot p_kind), (6, val (.pointer (some ⟨b1, 0, none⟩))), (8, val (.pointer (some ⟨b2, 0, none⟩))), (9, val (.pointer (some ⟨b3, 0, none⟩))), (10, i64.slot (r6.2.toNat : Int))]) (H' := [box b2 98 (prod (sl u8) bl) (y6, y7), box b3 134 (prod i64 (prod (sl u8) (exv v3))) ((r3.2.toNat : Int), r5.2, ()), own 23 R_api_Hash v3 y8, box b1 134 R_lms_signature (0, ([] : List (BitVec 8)), ([] : List T_api_Hash))]) (.cons (.of_lk rfl) <| .cons (.of_lk rfl) <| .cons (.of_lk rfl) <| .cons (.of_lk rfl) <| .cons (.of_lk rfl) <| .cons (.of_lk rfl) <| .nil) (.cons .here <| .cons .here <| .cons .here <| .cons .here <| .nil) ?_
      refine rs ?_
      refine run_freezeIn ((r3.2.toNat : Int), r5.2, y8) (.next (.next .here)) (.next .here) (cv_snd i64 (r3.2.toNat : Int) (cv_snd (sl u8) r5.2 cv_at)) ?_
      obtain ⟨r8, e14, h⟩ := bind_some h
      obtain ⟨y9, e16, h⟩ := bind_some h
      obtain ⟨y10, e18, h⟩ := bind_some h
      obtain ⟨y11, e21, h⟩ := bind_some h
      refine run_keep (H' := [box b1 134 R_lms_signature (0, ([] : List (BitVec 8)), ([] : List T_api_Hash)), box b3 134 R_lms_signature ((r3.2.toNat : Int), r5.2, y8), box b2 98 (prod (sl u8) bl) (y6, y7)]) (.cons (.next (.next .here)) <| .cons .here <| .cons .here <| .nil) ?_
      refine (run_drawJ (n := 25) (Γ' := [(6, val (.pointer (some ⟨b1, 0, none⟩))), (67, bl.slot y11)]) (H' := [box b1 134 R_lms_signature ((r3.2.toNat : Int), r5.2, y8)]) ?_ fun J => ?_)
      · clear e16 e18 e21
        refine jp (pa (ht rfl)) rfl rfl rfl ?_
        refine j_end ?_
        obtain rfl := oi h
        exact run_ret fun a w hst => q_retN hst rfl (.cons (.cell rfl .here (by kernel_rfl)) <| .cons (.tmp rfl) <| .nil) rfl () (fun _ _ h => h) (.nil)
      · rcases bool_tf (r8) with e15 | e15
        · replace e16 := bt e15 e16
          rcases bool_tf (y9) with e17 | e17
          · replace e18 := bt e17 e18
            obtain ⟨e19, e18⟩ := grd_some e18
            rcases bool_tf (y10) with e20 | e20
            · replace e21 := bt e20 e21
              obtain ⟨r9, e22, e21⟩ := bind_some e21
              obtain ⟨r10, e23, e21⟩ := bind_some e21
              exact run_drawL (n := 25) (H := [box b3 134 R_lms_signature ((r3.2.toNat : Int), r5.2, y8), box b2 98 (prod (sl u8) bl) (y6, y7)]) (Ls := [⟨[box b1 134 R_lms_signature (0, ([] : List (BitVec 8)), ([] : List T_api_Hash))], [(24, ⟨Unit, fun (_ : Unit) => [box b1 134 R_lms_signature ((r3.2.toNat : Int), r5.2, y8)], fun (_ : Unit) => []⟩)]⟩, ⟨[], [(18, ⟨Nat, fun (b4 : Nat) => [box b4 98 (prod (sl u8) bl) (r9.1, r9.2)], fun (b4 : Nat) => [(62, val (.pointer (some ⟨b4, 0, none⟩)))]⟩), (19, ⟨Nat, fun (b4 : Nat) => [box b4 98 (prod (sl u8) bl) (r10.1.1, r10.1.2)], fun (b4 : Nat) => [(63, u32.slot r10.2), (62, val (.pointer (some ⟨b4, 0, none⟩)))]⟩)]⟩]) (by kernel_rfl) (by kernel_rfl) (by kernel_rfl) (by kernel_rfl) (by kernel_rfl) rfl (.read rfl (.plain rfl (pj_load_box (ht rfl) .here (Path.all R_lms_signature) (by kernel_rfl))) <| .read rfl (.plain rfl (pm (ht rfl))) <| .read rfl (.plain rfl (pj_callR (hc (ht rfl) <| hasL_nil) (.next .here) (by kernel_rfl) (fun _ => (c_wire_Reader_Done e14)))) <| .read rfl (.plain rfl (pm (ht rfl))) <| .read rfl (.yes ⟨3, true, _, 47, _, rfl, rfl, rfl, fun _ _ => bl_p.1, gd_yes e15⟩ (pm (ht rfl))) <| .read rfl (.yes ⟨3, true, _, 47, _, rfl, rfl, rfl, fun _ _ => bl_p.1, gd_yes e15⟩ (pm (ht rfl))) <| .read rfl (.yes ⟨3, true, _, 47, _, rfl, rfl, rfl, fun _ _ => bl_p.1, gd_yes e15⟩ (pj_ieql (ht rfl) (ht rfl))) <| .read rfl (.plain rfl (PJ.eqv (R := bl) (pj_pick (t := any) (ht rfl) (fun _ => (ht rfl)) (fun he => absurd (e15.symm.trans he) (by decide))) (oi e16))) <| .read rfl (.plain rfl (pm (ht rfl))) <| .read rfl (.yes ⟨8, true, _, 52, _, rfl, rfl, rfl, fun _ _ => bl_p.1, gd_yes e17⟩ (pj_field_ptr (off := 0) (ht rfl) (by kernel_rfl))) <| .read rfl (.yes ⟨8, true, _, 52, _, rfl, rfl, rfl, fun _ _ => bl_p.1, gd_yes e17⟩ (pj_load_box (ht rfl) .here (Path.then (Path.all R_lms_signature) (Path.fst i64 (prod (sl u8) (sl R_api_Hash)))) (by kernel_rfl))) <| .read rfl (.yes ⟨8, true, _, 52, _, rfl, rfl, rfl, fun _ _ => bl_p.1, gd_yes e17⟩ (pm (ht rfl))) <| .read rfl (.yes ⟨8, true, _, 52, _, rfl, rfl, rfl, fun _ _ => bl_p.1, gd_yes e17⟩ (pj_ishl has_i64 (ht rfl) isInt_i64 e19)) <| .read rfl (.yes ⟨8, true, _, 52, _, rfl, rfl, rfl, fun _ _ => bl_p.1, gd_yes e17⟩ (pj_ilss (ht rfl) (ht rfl))) <| .read rfl (.plain rfl (PJ.eqv (R := bl) (pj_pick (t := any) (ht rfl) (fun _ => (ht rfl)) (fun he => absurd (e17.symm.trans he) (by decide))) (oi e18))) <| .read rfl (.plain rfl (pm (ht rfl))) <| .read rfl (.yes ⟨15, true, _, 59, _, rfl, rfl, rfl, fun _ _ => bl_p.1, gd_yes e20⟩ (pj_field_ptr (off := 1) (ht rfl) (by kernel_rfl))) <| .read rfl (.yes ⟨15, true, _, 59, _, rfl, rfl, rfl, fun _ _ => bl_p.1, gd_yes e20⟩ (pj_load_box (ht rfl) .here (Path.then (Path.all R_lms_signature) (Path.then (Path.snd i64 (prod (sl u8) (sl R_api_Hash))) (Path.fst (sl u8) (sl R_api_Hash)))) (by kernel_rfl))) <| .step 1 rfl .here (.inr ⟨15, true, _, 59, _, rfl, rfl, rfl, fun _ _ => bl_p.1, gd_yes e20⟩) (fun i => ⟨_, _, fun j => j, (w_call (hc (ht rfl) <| hasL_nil) (by kernel_rfl) (c_wire_New e22) .nil rfl), fun _ => rfl, slotAny, dst1⟩) <| .step 1 rfl (.next .here) (.inr ⟨15, true, _, 59, _, rfl, rfl, rfl, fun _ _ => bl_p.1, gd_yes e20⟩) (fun i => ⟨_, _, fun _ => i, (w_call (hc (ht rfl) <| hasL_nil) (by kernel_rfl) (c_wire_Reader_U32 e23) (.cons .here <| .nil) rfl), fun _ => rfl, slotIs, dst1⟩) <| .read rfl (.yes ⟨15, true, _, 59, _, rfl, rfl, rfl, fun _ _ => bl_p.1, gd_yes e20⟩ (pj_conv_ui (by decide) (by kernel_rfl) (ht rfl))) <| .read rfl (.yes ⟨15, true, _, 59, _, rfl, rfl, rfl, fun _ _ => bl_p.1, gd_yes e20⟩ (pm (ht rfl))) <| .read rfl (.yes ⟨15, true, _, 59, _, rfl, rfl, rfl, fun _ _ => bl_p.1, gd_yes e20⟩ (pj_ieql (ht rfl) (ht rfl))) <| .read rfl (.plain rfl (PJ.eqv (R := bl) (pj_pick (t := any) (ht rfl) (fun _ => (ht rfl)) (fun he => absurd (e20.symm.trans he) (by decide))) (oi e21))) <| .step 0 rfl .here (.inl rfl) (fun i => ⟨_, _, fun _ => (), (w_store (r' := ((r3.2.toNat : Int), r5.2, y8)) (ht rfl) (ht rfl) .here (Path.all R_lms_signature) (by kernel_rfl) rfl), fun _ => rfl, (slotNo (s := any)), dst0⟩) <| .nil) (fun _ b4 => j_to (Γ' := [(6, val (.pointer (some ⟨b1, 0, none⟩))), (67, bl.slot y11)]) (H' := [box b1 134 R_lms_signature ((r3.2.toNat : Int), r5.2, y8)]) (.cons (.of_lk rfl) <| .cons (.of_lk rfl) <| .nil) (.cons .here <| .nil) J)
            · replace e21 := bf e20 e21
              exact run_drawL (n := 25) (H := [box b3 134 R_lms_signature ((r3.2.toNat : Int), r5.2, y8), box b2 98 (prod (sl u8) bl) (y6, y7)]) (Ls := [⟨[box b1 134 R_lms_signature (0, ([] : List (BitVec 8)), ([] : List T_api_Hash))], [(24, ⟨Unit, fun (_ : Unit) => [box b1 134 R_lms_signature ((r3.2.toNat : Int), r5.2, y8)], fun (_ : Unit) => []⟩)]⟩]) (by kernel_rfl) (by kernel_rfl) (by kernel_rfl) (by kernel_rfl) (by kernel_rfl) rfl (.read rfl (.plain rfl (pj_load_box (ht rfl) .here (Path.all R_lms_signature) (by kernel_rfl))) <| .read rfl (.plain rfl (pm (ht rfl))) <| .read rfl (.plain rfl (pj_callR (hc (ht rfl) <| hasL_nil) (.next .here) (by kernel_rfl) (fun _ => (c_wire_Reader_Done e14)))) <| .read rfl (.plain rfl (pm (ht rfl))) <| .read rfl (.yes ⟨3, true, _, 47, _, rfl, rfl, rfl, fun _ _ => bl_p.1, gd_yes e15⟩ (pm (ht rfl))) <| .read rfl (.yes ⟨3, true, _, 47, _, rfl, rfl, rfl, fun _ _ => bl_p.1, gd_yes e15⟩ (pm (ht rfl))) <| .read rfl (.yes ⟨3, true, _, 47, _, rfl, rfl, rfl, fun _ _ => bl_p.1, gd_yes e15⟩ (pj_ieql (ht rfl) (ht rfl))) <| .read rfl (.plain rfl (PJ.eqv (R := bl) (pj_pick (t := any) (ht rfl) (fun _ => (ht rfl)) (fun he => absurd (e15.symm.trans he) (by decide))) (oi e16))) <| .read rfl (.plain rfl (pm (ht rfl))) <| .read rfl (.yes ⟨8, true, _, 52, _, rfl, rfl, rfl, fun _ _ => bl_p.1, gd_yes e17⟩ (pj_field_ptr (off := 0) (ht rfl) (by kernel_rfl))) <| .read rfl (.yes ⟨8, true, _, 52, _, rfl, rfl, rfl, fun _ _ => bl_p.1, gd_yes e17⟩ (pj_load_box (ht rfl) .here (Path.then (Path.all R_lms_signature) (Path.fst i64 (prod (sl u8) (sl R_api_Hash)))) (by kernel_rfl))) <| .read rfl (.yes ⟨8, true, _, 52, _, rfl, rfl, rfl, fun _ _ => bl_p.1, gd_yes e17⟩ (pm (ht rfl))) <| .read rfl (.yes ⟨8, true, _, 52, _, rfl, rfl, rfl, fun _ _ => bl_p.1, gd_yes e17⟩ (pj_ishl has_i64 (ht rfl) isInt_i64 e19)) <| .read rfl (.yes ⟨8, true, _, 52, _, rfl, rfl, rfl, fun _ _ => bl_p.1, gd_yes e17⟩ (pj_ilss (ht rfl) (ht rfl))) <| .read rfl (.plain rfl (PJ.eqv (R := bl) (pj_pick (t := any) (ht rfl) (fun _ => (ht rfl)) (fun he => absurd (e17.symm.trans he) (by decide))) (oi e18))) <| .read rfl (.plain rfl (pm (ht rfl))) <| .read rfl (.no ⟨15, true, _, 59, _, rfl, rfl, rfl, fun _ _ => bl_p.1, gd_no e20⟩) <| .read rfl (.no ⟨15, true, _, 59, _, rfl, rfl, rfl, fun _ _ => bl_p.1, gd_no e20⟩) <| .read rfl (.no ⟨15, true, _, 59, _, rfl, rfl, rfl, fun _ _ => bl_p.1, gd_no e20⟩) <| .read rfl (.no ⟨15, true, _, 59, _, rfl, rfl, rfl, fun _ _ => bl_p.1, gd_no e20⟩) <| .read rfl (.no ⟨15, true, _, 59, _, rfl, rfl, rfl, fun _ _ => bl_p.1, gd_no e20⟩) <| .read rfl (.no ⟨15, true, _, 59, _, rfl, rfl, rfl, fun _ _ => bl_p.1, gd_no e20⟩) <| .read rfl (.no ⟨15, true, _, 59, _, rfl, rfl, rfl, fun _ _ => bl_p.1, gd_no e20⟩) <| .read rfl (.plain rfl (PJ.eqv (R := bl) (pj_pick (t := any) (ht rfl) (fun he => absurd (e20.symm.trans he) (by decide)) (fun _ => has_bl)) (oi e21))) <| .step 0 rfl .here (.inl rfl) (fun i => ⟨_, _, fun _ => (), (w_store (r' := ((r3.2.toNat : Int), r5.2, y8)) (ht rfl) (ht rfl) .here (Path.all R_lms_signature) (by kernel_rfl) rfl), fun _ => rfl, (slotNo (s := any)), dst0⟩) <| .nil) (fun _ => j_to (Γ' := [(6, val (.pointer (some ⟨b1, 0, none⟩))), (67, bl.slot y11)]) (H' := [box b1 134 R_lms_signature ((r3.2.toNat : Int), r5.2, y8)]) (.cons (.of_lk rfl) <| .cons (.of_lk rfl) <| .nil) (.cons .here <| .nil) J)
          · replace e18 := bf e17 e18
            rcases bool_tf (y10) with e20 | e20
            · exact absurd ((oi e18).trans e20) (by decide)
            · replace e21 := bf e20 e21
              exact run_drawL (n := 25) (H := [box b3 134 R_lms_signature ((r3.2.toNat : Int), r5.2, y8), box b2 98 (prod (sl u8) bl) (y6, y7)]) (Ls := [⟨[box b1 134 R_lms_signature (0, ([] : List (BitVec 8)), ([] : List T_api_Hash))], [(24, ⟨Unit, fun (_ : Unit) => [box b1 134 R_lms_signature ((r3.2.toNat : Int), r5.2, y8)], fun (_ : Unit) => []⟩)]⟩]) (by kernel_rfl) (by kernel_rfl) (by kernel_rfl) (by kernel_rfl) (by kernel_rfl) rfl (.read rfl (.plain rfl (pj_load_box (ht rfl) .here (Path.all R_lms_signature) (by kernel_rfl))) <| .read rfl (.plain rfl (pm (ht rfl))) <| .read rfl (.plain rfl (pj_callR (hc (ht rfl) <| hasL_nil) (.next .here) (by kernel_rfl) (fun _ => (c_wire_Reader_Done e14)))) <| .read rfl (.plain rfl (pm (ht rfl))) <| .read rfl (.yes ⟨3, true, _, 47, _, rfl, rfl, rfl, fun _ _ => bl_p.1, gd_yes e15⟩ (pm (ht rfl))) <| .read rfl (.yes ⟨3, true, _, 47, _, rfl, rfl, rfl, fun _ _ => bl_p.1, gd_yes e15⟩ (pm (ht rfl))) <| .read rfl (.yes ⟨3, true, _, 47, _, rfl, rfl, rfl, fun _ _ => bl_p.1, gd_yes e15⟩ (pj_ieql (ht rfl) (ht rfl))) <| .read rfl (.plain rfl (PJ.eqv (R := bl) (pj_pick (t := any) (ht rfl) (fun _ => (ht rfl)) (fun he => absurd (e15.symm.trans he) (by decide))) (oi e16))) <| .read rfl (.plain rfl (pm (ht rfl))) <| .read rfl (.no ⟨8, true, _, 52, _, rfl, rfl, rfl, fun _ _ => bl_p.1, gd_no e17⟩) <| .read rfl (.no ⟨8, true, _, 52, _, rfl, rfl, rfl, fun _ _ => bl_p.1, gd_no e17⟩) <| .read rfl (.no ⟨8, true, _, 52, _, rfl, rfl, rfl, fun _ _ => bl_p.1, gd_no e17⟩) <| .read rfl (.no ⟨8, true, _, 52, _, rfl, rfl, rfl, fun _ _ => bl_p.1, gd_no e17⟩) <| .read rfl (.no ⟨8, true, _, 52, _, rfl, rfl, rfl, fun _ _ => bl_p.1, gd_no e17⟩) <| .read rfl (.plain rfl (PJ.eqv (R := bl) (pj_pick (t := any) (ht rfl) (fun he => absurd (e17.symm.trans he) (by decide)) (fun _ => has_bl)) (oi e18))) <| .read rfl (.plain rfl (pm (ht rfl))) <| .read rfl (.no ⟨15, true, _, 59, _, rfl, rfl, rfl, fun _ _ => bl_p.1, gd_no e20⟩) <| .read rfl (.no ⟨15, true, _, 59, _, rfl, rfl, rfl, fun _ _ => bl_p.1, gd_no e20⟩) <| .read rfl (.no ⟨15, true, _, 59, _, rfl, rfl, rfl, fun _ _ => bl_p.1, gd_no e20⟩) <| .read rfl (.no ⟨15, true, _, 59, _, rfl, rfl, rfl, fun _ _ => bl_p.1, gd_no e20⟩) <| .read rfl (.no ⟨15, true, _, 59, _, rfl, rfl, rfl, fun _ _ => bl_p.1, gd_no e20⟩) <| .read rfl (.no ⟨15, true, _, 59, _, rfl, rfl, rfl, fun _ _ => bl_p.1, gd_no e20⟩) <| .read rfl (.no ⟨15, true, _, 59, _, rfl, rfl, rfl, fun _ _ => bl_p.1, gd_no e20⟩) <| .read rfl (.plain rfl (PJ.eqv (R := bl) (pj_pick (t := any) (ht rfl) (fun he => absurd (e20.symm.trans he) (by decide)) (fun _ => has_bl)) (oi e21))) <| .step 0 rfl .here (.inl rfl) (fun i => ⟨_, _, fun _ => (), (w_store (r' := ((r3.2.toNat : Int), r5.2, y8)) (ht rfl) (ht rfl) .here (Path.all R_lms_signature) (by kernel_rfl) rfl), fun _ => rfl, (slotNo (s := any)), dst0⟩) <| .nil) (fun _ => j_to (Γ' := [(6, val (.pointer (some ⟨b1, 0, none⟩))), (67, bl.slot y11)]) (H' := [box b1 134 R_lms_signature ((r3.2.toNat : Int), r5.2, y8)]) (.cons (.of_lk rfl) <| .cons (.of_lk rfl) <| .nil) (.cons .here <| .nil) J)
        · replace e16 := bf e15 e16
          rcases bool_tf (y9) with e17 | e17
          · exact absurd ((oi e16).trans e17) (by decide)
          · replace e18 := bf e17 e18
            rcases bool_tf (y10) with e20 | e20
            · exact absurd ((oi e18).trans e20) (by decide)
            · replace e21 := bf e20 e21
              exact run_drawL (n := 25) (H := [box b3 134 R_lms_signature ((r3.2.toNat : Int), r5.2, y8), box b2 98 (prod (sl u8) bl) (y6, y7)]) (Ls := [⟨[box b1 134 R_lms_signature (0, ([] : List (BitVec 8)), ([] : List T_api_Hash))], [(24, ⟨Unit, fun (_ : Unit) => [box b1 134 R_lms_signature ((r3.2.toNat : Int), r5.2, y8)], fun (_ : Unit) => []⟩)]⟩]) (by kernel_rfl) (by kernel_rfl) (by kernel_rfl) (by kernel_rfl) (by kernel_rfl) rfl (.read rfl (.plain rfl (pj_load_box (ht rfl) .here (Path.all R_lms_signature) (by kernel_rfl))) <| .read rfl (.plain rfl (pm (ht rfl))) <| .read rfl (.plain rfl (pj_callR (hc (ht rfl) <| hasL_nil) (.next .here) (by kernel_rfl) (fun _ => (c_wire_Reader_Done e14)))) <| .read rfl (.plain rfl (pm (ht rfl))) <| .read rfl (.no ⟨3, true, _, 47, _, rfl, rfl, rfl, fun _ _ => bl_p.1, gd_no e15⟩) <| .read rfl (.no ⟨3, true, _, 47, _, rfl, rfl, rfl, fun _ _ => bl_p.1, gd_no e15⟩) <| .read rfl (.no ⟨3, true, _, 47, _, rfl, rfl, rfl, fun _ _ => bl_p.1, gd_no e15⟩) <| .read rfl (.plain rfl (PJ.eqv (R := bl) (pj_pick (t := any) (ht rfl) (fun he => absurd (e15.symm.trans he) (by decide)) (fun _ => has_bl)) (oi e16))) <| .read rfl (.plain rfl (pm (ht rfl))) <| .read rfl (.no ⟨8, true, _, 52, _, rfl, rfl, rfl, fun _ _ => bl_p.1, gd_no e17⟩) <| .read rfl (.no ⟨8, true, _, 52, _, rfl, rfl, rfl, fun _ _ => bl_p.1, gd_no e17⟩) <| .read rfl (.no ⟨8, true, _, 52, _, rfl, rfl, rfl, fun _ _ => bl_p.1, gd_no e17⟩) <| .read rfl (.no ⟨8, true, _, 52, _, rfl, rfl, rfl, fun _ _ => bl_p.1, gd_no e17⟩) <| .read rfl (.no ⟨8, true, _, 52, _, rfl, rfl, rfl, fun _ _ => bl_p.1, gd_no e17⟩) <| .read rfl (.plain rfl (PJ.eqv (R := bl) (pj_pick (t := any) (ht rfl) (fun he => absurd (e17.symm.trans he) (by decide)) (fun _ => has_bl)) (oi e18))) <| .read rfl (.plain rfl (pm (ht rfl))) <| .read rfl (.no ⟨15, true, _, 59, _, rfl, rfl, rfl, fun _ _ => bl_p.1, gd_no e20⟩) <| .read rfl (.no ⟨15, true, _, 59, _, rfl, rfl, rfl, fun _ _ => bl_p.1, gd_no e20⟩) <| .read rfl (.no ⟨15, true, _, 59, _, rfl, rfl, rfl, fun _ _ => bl_p.1, gd_no e20⟩) <| .read rfl (.no ⟨15, true, _, 59, _, rfl, rfl, rfl, fun _ _ => bl_p.1, gd_no e20⟩) <| .read rfl (.no ⟨15, true, _, 59, _, rfl, rfl, rfl, fun _ _ => bl_p.1, gd_no e20⟩) <| .read rfl (.no ⟨15, true, _, 59, _, rfl, rfl, rfl, fun _ _ => bl_p.1, gd_no e20⟩) <| .read rfl (.no ⟨15, true, _, 59, _, rfl, rfl, rfl, fun _ _ => bl_p.1, gd_no e20⟩) <| .read rfl (.plain rfl (PJ.eqv (R := bl) (pj_pick (t := any) (ht rfl) (fun he => absurd (e20.symm.trans he) (by decide)) (fun _ => has_bl)) (oi e21))) <| .step 0 rfl .here (.inl rfl) (fun i => ⟨_, _, fun _ => (), (w_store (r' := ((r3.2.toNat : Int), r5.2, y8)) (ht rfl) (ht rfl) .here (Path.all R_lms_signature) (by kernel_rfl) rfl), fun _ => rfl, (slotNo (s := any)), dst0⟩) <| .nil) (fun _ => j_to (Γ' := [(6, val (.pointer (some ⟨b1, 0, none⟩))), (67, bl.slot y11)]) (H' := [box b1 134 R_lms_signature ((r3.2.toNat : Int), r5.2, y8)]) (.cons (.of_lk rfl) <| .cons (.of_lk rfl) <| .nil) (.cons .here <| .nil) J)
set_option maxRecDepth 100000 in
set_option maxHeartbeats 4000000 in
theorem c_lmots_form_most {G : GP} {p_f : T_lmots_form} {r : Int} (h : lmots_form_most p_f = some r) : Ctr Tryd.prog G 107 [R_lmots_form.slot p_f] [] (fun (_ : Unit) => i64.slot r) (fun (_ : Unit) => []) := by
  unfold lmots_form_most at h
  refine ctr_of_run Tryd.func107 rfl 7 rfl rfl fun m0 w0 b0 => ?_
  show Run _ _ _ [(0, R_lmots_form.slot p_f)] _
  refine rs ?_
  refine rt ?_
  refine jp (pj_box_to (ht rfl)) rfl rfl rfl ?_
  refine jp (pa has_i64) rfl rfl rfl ?_
  refine j_end ?_
  refine rs ?_
  refine rt ?_
  refine jp (pj_field_to (ht rfl) (Path.fst i64 (prod i64 i64)) (by kernel_rfl)) rfl rfl rfl ?_
  refine jp (pl (ht rfl) (by kernel_rfl)) rfl rfl rfl ?_
  obtain ⟨e1, h⟩ := grd_some h
  refine jp (pj_ishl has_i64 (ht rfl) isInt_i64 e1) rfl rfl rfl ?_
  refine jp (pj_isub (ht rfl) has_i64) rfl rfl rfl ?_
  refine jp (pa (ht rfl)) rfl rfl rfl ?_
  refine j_end ?_
  obtain rfl := oi h
  exact run_ret fun a w hst => q_ret1 hst rfl (.tmp rfl) () (fun _ _ h => h) (.nil)
set_option maxRecDepth 100000 in
set_option maxHeartbeats 4000000 in
theorem c_lmots_form_cut {G : GP} {Sy : Type} {p_f : T_lmots_form} {p_b : List (BitVec 8)} {yl : Sy → Int → Option Sy} {s0 : Sy} {L : Nat} {rc : Loop} {E : Sy → Ent} {r : Sy} (hY : ∀ s d s', yl s d = some s' → YieldC Tryd.prog G L rc (i64.slot d) (E s) (E s')) (h : lmots_form_cut p_f p_b yl s0 = some r) : CtrY Tryd.prog G L rc 124 [R_lmots_form.slot p_f, (sl u8).slot p_b, val (yv L)] [E s0] (fun (_ : Unit) => tup []) (fun (_ : Unit) => [E r]) := by
  unfold lmots_form_cut at h
  refine ctrY_of_run Tryd.func124 rfl 35 rfl rfl fun m0 w0 b0 hl hb => ?_
  show Run _ _ _ [(0, R_lmots_form.slot p_f), (1, (sl u8).slot p_b), (2, val (yv L))] _
  refine rs ?_
  refine rt ?_
  refine jp (pj_box_to (ht rfl)) rfl rfl rfl ?_
  refine j_end ?_
  refine rs ?_
  refine rt ?_
  refine jp (pm (ht rfl)) rfl rfl rfl ?_
  refine jp (pj_len_sl (sz := 1) (ht rfl) (by kernel_rfl)) rfl rfl rfl ?_
  refine jp (pm has_i64) rfl rfl rfl ?_
  refine j_end ?_
  obtain ⟨⟨y8, y9⟩, e9, h⟩ := bind_some h
  refine run_loopS (Γi := fun (i : Unit) (s : Int × Sy) => [(2, val (yv L)), (3, ptrTo R_lmots_form p_f), (9, (sl u8).slot p_b), (10, i64.slot (p_b.length : Int)), (11, i64.slot s.1)]) (Hi := fun (i : Unit) (s : Int × Sy) => [E s.2]) e9 () (fun a w hst => (hst.sub (.cons (.of_lk rfl) <| .cons (.of_lk rfl) <| .cons (.of_lk rfl) <| .cons (.of_lk rfl) <| .cons (.of_lk rfl) <| .nil)).keep (.cons .here <| .nil)) ?_ ?_
  · clear h e9
    rintro _ ⟨y1, y2⟩ lr h
    change lmots_form_cut_L1 p_b p_f yl y1 y2 = some _ at h
    show Run _ _ _ [(2, val (yv L)), (3, ptrTo R_lmots_form p_f), (9, (sl u8).slot p_b), (10, i64.slot (p_b.length : Int)), (11, i64.slot y1)] [E y2]
    unfold lmots_form_cut_L1 at h
    refine rs ?_
    refine rt ?_
    refine jp (pj_ilss (ht rfl) (ht rfl)) rfl rfl rfl ?_
    refine j_end ?_
    refine rs ?_
    refine run_cond (ht rfl) (fun e1 => ?_) (fun e1 => ?_)
    · replace h := bt e1 h
      refine run_skip ?_
      refine rs ?_
      refine run_block ?_
      refine rs ?_
      refine rt ?_
      obtain ⟨x1, e2, h⟩ := bind_some h
      refine jp (pj_index_slx (ht rfl) (ht rfl) isInt_i64 e2 (by kernel_rfl)) rfl rfl rfl ?_
      refine jp (pl (ht rfl) (by kernel_rfl)) rfl rfl rfl ?_
      refine jp (pa (ht rfl)) rfl rfl rfl ?_
      refine j_end ?_
      refine rs ?_
      refine rt ?_
      refine jp (pj_field_to (ht rfl) (Path.fst i64 (prod i64 i64)) (by kernel_rfl)) rfl rfl rfl ?_
      refine jp (pl (ht rfl) (by kernel_rfl)) rfl rfl rfl ?_
      refine jp (pj_isub has_i64 (ht rfl)) rfl rfl rfl ?_
      refine jp (pa (ht rfl)) rfl rfl rfl ?_
      refine j_end ?_
      obtain ⟨⟨y6, y7⟩, e8, h⟩ := bind_some h
      refine run_loopS (Γi := fun (i : Unit) (s : Int × Sy) => [(2, val (yv L)), (3, ptrTo R_lmots_form p_f), (7, u8.slot x1), (8, i64.slot s.1), (9, (sl u8).slot p_b), (10, i64.slot (p_b.length : Int)), (11, i64.slot y1)]) (Hi := fun (i : Unit) (s : Int × Sy) => [E s.2]) e8 () (fun a w hst => (hst.sub (.cons (.of_lk rfl) <| .cons (.of_lk rfl) <| .cons (.of_lk rfl) <| .cons (.of_lk rfl) <| .cons (.of_lk rfl) <| .cons (.of_lk rfl) <| .cons (.of_lk rfl) <| .nil)).keep (.cons .here <| .nil)) ?_ ?_
      · clear h e8
        rintro _ ⟨y3, y4⟩ lr h
        change lmots_form_cut_L2 p_f yl x1 y3 y4 = some _ at h
        show Run _ _ _ [(2, val (yv L)), (3, ptrTo R_lmots_form p_f), (7, u8.slot x1), (8, i64.slot y3), (9, (sl u8).slot p_b), (10, i64.slot (p_b.length : Int)), (11, i64.slot y1)] [E y4]
        unfold lmots_form_cut_L2 at h
        refine rs ?_
        refine rs ?_
        refine rt ?_
        refine jp (pm (ht rfl)) rfl rfl rfl ?_
        refine jp (pj_igeq (ht rfl) has_i64) rfl rfl rfl ?_
        refine j_end ?_
        refine run_cond (ht rfl) (fun e3 => ?_) (fun e3 => ?_)
        · replace h := bt e3 h
          refine run_skip ?_
          refine rs ?_
          refine run_block ?_
          refine rs ?_
          obtain ⟨e4, h⟩ := grd_some h
          obtain ⟨r1, e5, h⟩ := bind_some h
          refine run_draw (n := 8) (by kernel_rfl) (by kernel_rfl) (by kernel_rfl) (by kernel_rfl) (.read (.plain rfl (pm (ht rfl))) <| .read (.plain rfl (pm (ht rfl))) <| .read (.plain rfl (pj_conv_ui (by decide) (by kernel_rfl) (ht rfl))) <| .read (.plain rfl (pm (ht rfl))) <| .read (.plain rfl (pj_ishr (ht rfl) (ht rfl) isInt_i64 e4)) <| .read (.plain rfl (pl (ht rfl) (by kernel_rfl))) <| .read (.plain rfl (pj_call (hc (ht rfl) <| hasL_nil) (by kernel_rfl) (c_lmots_form_most e5))) <| .read (.plain rfl (pj_iand (ht rfl) (ht rfl))) <| .nil) (j_to (Γ' := [(2, val (yv L)), (3, ptrTo R_lmots_form p_f), (7, u8.slot x1), (8, i64.slot y3), (9, (sl u8).slot p_b), (10, i64.slot (p_b.length : Int)), (11, i64.slot y1), (24, val (yv L)), (31, i64.slot (iand (ishr (x1.toNat : Int) y3) r1))]) (H' := [E y4]) (.cons (.of_lk rfl) <| .cons (.of_lk rfl) <| .cons (.of_lk rfl) <| .cons (.of_lk rfl) <| .cons (.of_lk rfl) <| .cons (.of_lk rfl) <| .cons (.of_lk rfl) <| .cons (.of_lk rfl) <| .cons (.of_lk rfl) <| .nil) (.cons .here <| .nil) ?_)
          obtain ⟨y5, e6, h⟩ := bind_some h
          refine j_yield (ht rfl) (ht rfl) hl hb (hY _ _ _ e6) rfl ?_
          refine jp (pj_not (ht rfl)) rfl rfl rfl ?_
          refine j_end ?_
          refine run_cond_f (ht rfl) rfl ?_
          refine run_skip ?_
          refine run_endblock ?_
          refine rt ?_
          refine jp (pm (ht rfl)) rfl rfl rfl ?_
          refine jp (pj_field_to (ht rfl) (Path.fst i64 (prod i64 i64)) (by kernel_rfl)) rfl rfl rfl ?_
          refine jp (pl (ht rfl) (by kernel_rfl)) rfl rfl rfl ?_
          refine jp (pj_isub (ht rfl) (ht rfl)) rfl rfl rfl ?_
          refine jp (pa (ht rfl)) rfl rfl rfl ?_
          refine j_end ?_
          obtain rfl := oi h
          exact run_next () (.cons (.of_lk rfl) <| .cons (.of_lk rfl) <| .cons (.of_lk rfl) <| .cons (.of_lk rfl) <| .cons (.of_lk rfl) <| .cons (.of_lk rfl) <| .cons (.of_lk rfl) <| .nil) (.cons .here <| .nil)
        · replace h := bf e3 h
          obtain rfl := oi h
          exact run_brk () (.cons (.of_lk rfl) <| .cons (.of_lk rfl) <| .cons (.of_lk rfl) <| .cons (.of_lk rfl) <| .cons (.of_lk rfl) <| .cons (.of_lk rfl) <| .cons (.of_lk rfl) <| .nil) (.cons .here <| .nil)
      · rintro _
        show Run _ _ _ [(2, val (yv L)), (3, ptrTo R_lmots_form p_f), (7, u8.slot x1), (8, i64.slot y6), (9, (sl u8).slot p_b), (10, i64.slot (p_b.length : Int)), (11, i64.slot y1)] [E y7]
        refine run_to (Γ' := [(2, val (yv L)), (3, ptrTo R_lmots_form p_f), (9, (sl u8).slot p_b), (10, i64.slot (p_b.length : Int)), (11, i64.slot y1)]) (H' := [E y7]) (.cons (.of_lk rfl) <| .cons (.of_lk rfl) <| .cons (.of_lk rfl) <| .cons (.of_lk rfl) <| .cons (.of_lk rfl) <| .nil) (.cons .here <| .nil) ?_
        refine run_endblock ?_
        refine rt ?_
        refine jp (pj_iadd (ht rfl) has_i64) rfl rfl rfl ?_
        refine jp (pm (ht rfl)) rfl rfl rfl ?_
        refine j_end ?_
        obtain rfl := oi h
        exact run_next () (.cons (.of_lk rfl) <| .cons (.of_lk rfl) <| .cons (.of_lk rfl) <| .cons (.of_lk rfl) <| .cons (.of_lk rfl) <| .nil) (.cons .here <| .nil)
    · replace h := bf e1 h
      obtain rfl := oi h
      exact run_brk () (.cons (.of_lk rfl) <| .cons (.of_lk rfl) <| .cons (.of_lk rfl) <| .cons (.of_lk rfl) <| .cons (.of_lk rfl) <| .nil) (.cons .here <| .nil)
  · rintro _
    show Run _ _ _ [(2, val (yv L)), (3, ptrTo R_lmots_form p_f), (9, (sl u8).slot p_b), (10, i64.slot (p_b.length : Int)), (11, i64.slot y8)] [E y9]
    refine run_to (Γ' := []) (H' := [E y9]) (.nil) (.cons .here <| .nil) ?_
    obtain rfl := oi h
    exact run_nil fun a w hst => q_retN_n hst rfl (.nil) rfl () (fun _ _ h => h) (.cons .here <| .nil)
set_option maxRecDepth 100000 in
set_option maxHeartbeats 4000000 in
theorem c_lmots_form_sum_1 {G : GP} {Sy : Type} {yl : Sy → Int → Option Sy} {q_0 : T_lmots_form} {q_1 : T_api_Hash} {s0 : Sy} {L : Nat} {rc : Loop} {E : Sy → Ent} {r : Sy} (hY : ∀ s d s', yl s d = some s' → YieldC Tryd.prog G L rc (i64.slot d) (E s) (E s')) (h : lmots_form_sum_1 yl q_0 q_1 s0 = some r) : CtrY Tryd.prog G L rc 128 [val (yv L), ptrTo R_lmots_form q_0, ptrTo R_api_Hash q_1] [E s0] (fun (_ : Unit) => tup []) (fun (_ : Unit) => [E r]) := by
  unfold lmots_form_sum_1 at h
  refine ctrY_of_run Tryd.func128 rfl 8 rfl rfl fun m0 w0 b0 hl hb => ?_
  show Run _ _ _ [(0, val (yv L)), (1, ptrTo R_lmots_form q_0), (2, ptrTo R_api_Hash q_1)] _
  refine run_draw (n := 3) (by kernel_rfl) (by kernel_rfl) (by kernel_rfl) (by kernel_rfl) (.read (.plain rfl (pl (ht rfl) (by kernel_rfl))) <| .read (.plain rfl (pj_slice_toF (ht rfl) (by decide) (by kernel_rfl))) <| .read (.plain rfl (pm (ht rfl))) <| .nil) (j_to (Γ' := [(4, R_lmots_form.slot q_0), (5, (sl u8).slot q_1.toList), (6, val (yv L))]) (H' := [E s0]) (.cons (.of_lk rfl) <| .cons (.of_lk rfl) <| .cons (.of_lk rfl) <| .nil) (.cons .here <| .nil) ?_)
  obtain ⟨y1, e2, h⟩ := bind_some h
  refine j_callY (hc (ht rfl) <| hc (ht rfl) <| hc (ht rfl) <| hasL_nil) (by kernel_rfl) hl hb (c_lmots_form_cut hY e2) rfl ?_
  refine j_end ?_
  obtain rfl := oi h
  exact run_nil fun a w hst => q_retN_n hst rfl (.nil) rfl () (fun _ _ h => h) (.cons .here <| .nil)
set_option maxRecDepth 100000 in
set_option maxHeartbeats 4000000 in
theorem c_lmots_form_sum {G : GP} {p_f : T_lmots_form} {p_h : T_api_Hash} {r : (List (BitVec 8))} (h : lmots_form_sum p_f p_h = some r) : Ctr Tryd.prog G 122 [R_lmots_form.slot p_f, R_api_Hash.slot p_h] [] (fun (u0 : Value) => ov u0) (fun (u0 : Value) => [own 5 u8 u0 r]) := by
  unfold lmots_form_sum at h
  refine ctr_of_runM Tryd.func122 rfl 25 rfl rfl fun m0 w0 b0 => ?_
  show Run _ _ _ [(0, R_lmots_form.slot p_f), (1, R_api_Hash.slot p_h)] _
  refine rs ?_
  refine rt ?_
  refine jp (pj_box_to (ht rfl)) rfl rfl rfl ?_
  refine jp (pj_box_to (ht rfl)) rfl rfl rfl ?_
  refine j_assign_nil (T := 5) u8 rfl fun v1 => ?_
  refine j_end ?_
  refine rs ?_
  refine rt ?_
  refine j_alloc (x := 0) (R := i64) zero_i64 (by kernel_rfl) rfl fun b1 => ?_
  refine j_store_boxx (r' := (0 : Int)) (ht rfl) has_i64 .here (Path.all i64) (by kernel_rfl) rfl ?_
  refine j_end ?_
  refine rs ?_
  refine rs ?_
  refine rt ?_
  refine jp (pj_makeFunc (hc (ht rfl) <| hc (ht rfl) <| hasL_nil)) rfl rfl rfl ?_
  refine j_end ?_
  refine run_block ?_
  refine run_to (Γ' := [(2, ptrTo R_lmots_form p_f), (5, val (.pointer (some ⟨b1, 0, none⟩))), (7, fnS 128 [ptrTo R_lmots_form p_f, ptrTo R_api_Hash p_h])]) (H' := [box b1 3 i64 (0 : Int)]) (.cons (.of_lk rfl) <| .cons (.of_lk rfl) <| .cons (.of_lk rfl) <| .nil) (.cons .here <| .nil) ?_
  obtain ⟨y2, e2, h⟩ := bind_some h
  refine run_rangeFunc (σ := Int) (α := Int) (κ := Unit) (Es := fun (i : Unit) (s : Int) => [box b1 3 i64 s]) (y := (fun (s : Int) (d : Int) => lmots_form_sum_L1 p_f s d)) (sd := fun d => i64.slot d) (Γ1 := fun d => [(2, ptrTo R_lmots_form p_f), (5, val (.pointer (some ⟨b1, 0, none⟩))), (6, i64.slot d)]) () (ht rfl) (by kernel_rfl) rfl (.cons .here <| .nil) (fun l rc G' hG hY => (c_lmots_form_sum_1 (E := fun (s : Int) => packE fun (i : Unit) => [box b1 3 i64 s]) hY e2)) ?_ ?_ ?_
  · clear h e2
    rintro lz mz wz bz _ y1 d s2 h
    show Run _ _ _ ((8, i64.slot d) :: [(2, ptrTo R_lmots_form p_f), (5, val (.pointer (some ⟨b1, 0, none⟩))), (7, fnS 128 [ptrTo R_lmots_form p_f, ptrTo R_api_Hash p_h])]) [box b1 3 i64 y1]
    refine rt ?_
    refine jp (pa (ht rfl)) rfl rfl rfl ?_
    refine j_end ?_
    exact run_nil fun a w hst => ⟨rfl, (hst.sub (.cons (.of_lk rfl) <| .cons (.of_lk rfl) <| .cons (.of_lk rfl) <| .nil)).keep (.cons .here <| .nil)⟩
  · clear h e2
    rintro lz mz wz bz _ y1 d s2 h
    change lmots_form_sum_L1 p_f y1 d = some _ at h
    show Run _ _ _ [(2, ptrTo R_lmots_form p_f), (5, val (.pointer (some ⟨b1, 0, none⟩))), (6, i64.slot d)] [box b1 3 i64 y1]
    unfold lmots_form_sum_L1 at h
    refine run_block ?_
    obtain ⟨r1, e1, h⟩ := bind_some h
    refine run_draw (n := 5) (by kernel_rfl) (by kernel_rfl) (by kernel_rfl) (by kernel_rfl) (.read (.plain rfl (pj_load_box (ht rfl) .here (Path.all i64) (by kernel_rfl))) <| .read (.plain rfl (pl (ht rfl) (by kernel_rfl))) <| .read (.plain rfl (pj_call (hc (ht rfl) <| hasL_nil) (by kernel_rfl) (c_lmots_form_most e1))) <| .read (.plain rfl (pm (ht rfl))) <| .read (.plain rfl (pj_isub (ht rfl) (ht rfl))) <| .nil) (j_to (Γ' := [(5, val (.pointer (some ⟨b1, 0, none⟩))), (9, i64.slot y1), (13, i64.slot (w64 (r1 - d)))]) (H' := [box b1 3 i64 y1]) (.cons (.of_lk rfl) <| .cons (.of_lk rfl) <| .cons (.of_lk rfl) <| .nil) (.cons .here <| .nil) ?_)
    refine jp (pj_iadd (ht rfl) (ht rfl)) rfl rfl rfl ?_
    refine j_store_boxx (r' := w64 (y1 + (w64 (r1 - d)))) (ht rfl) (ht rfl) .here (Path.all i64) (by kernel_rfl) rfl ?_
    refine j_end ?_
    refine run_endblock ?_
    obtain rfl := oi h
    exact run_nil fun a w hst => ⟨rfl, (), (hst.sub .nil).keep (.cons .here <| .nil)⟩
  · rintro _
    show Run _ _ _ [(2, ptrTo R_lmots_form p_f), (5, val (.pointer (some ⟨b1, 0, none⟩))), (7, fnS 128 [ptrTo R_lmots_form p_f, ptrTo R_api_Hash p_h])] [box b1 3 i64 y2]
    refine run_to (Γ' := [(2, ptrTo R_lmots_form p_f), (5, val (.pointer (some ⟨b1, 0, none⟩)))]) (H' := [box b1 3 i64 y2]) (.cons (.of_lk rfl) <| .cons (.of_lk rfl) <| .nil) (.cons .here <| .nil) ?_
    refine run_endblock ?_
    refine rs ?_
    refine rt ?_
    refine jp (pj_load_box (ht rfl) .here (Path.all i64) (by kernel_rfl)) rfl rfl rfl ?_
    refine jp (pj_field_to (ht rfl) (Path.then (Path.snd i64 (prod i64 i64)) (Path.snd i64 i64)) (by kernel_rfl)) rfl rfl rfl ?_
    refine jp (pl (ht rfl) (by kernel_rfl)) rfl rfl rfl ?_
    obtain ⟨e3, h⟩ := grd_some h
    refine jp (pj_ishl (ht rfl) (ht rfl) isInt_i64 e3) rfl rfl rfl ?_
    refine j_store_boxx (r' := ishl y2 p_f.2.2) (ht rfl) (ht rfl) .here (Path.all i64) (by kernel_rfl) rfl ?_
    refine j_end ?_
    refine rs ?_
    refine rt ?_
    refine jp (pj_load_box (ht rfl) .here (Path.all i64) (by kernel_rfl)) rfl rfl rfl ?_
    refine jp (pj_ishr (ht rfl) (has_un (x := 8#64) rfl) isInt_un (Int.natCast_nonneg _)) rfl rfl rfl ?_
    refine jp (pj_conv_un (k := .u8) (b := 8) rfl rfl (by kernel_rfl) (ht rfl) isInt_i64) rfl rfl rfl ?_
    refine jp (pj_load_box (ht rfl) .here (Path.all i64) (by kernel_rfl)) rfl rfl rfl ?_
    refine jp (pj_conv_un (k := .u8) (b := 8) rfl rfl (by kernel_rfl) (ht rfl) isInt_i64) rfl rfl rfl ?_
    refine j_buildSlice (T := 5) (R := u8) (.cons (ht rfl) (.cons (ht rfl) .nil)) rfl (by kernel_rfl) (by kernel_rfl) rfl fun v2 => ?_
    refine jp (pa (ht rfl)) rfl rfl rfl ?_
    refine j_end ?_
    obtain rfl := oi h
    exact run_ret fun a w hst => q_ret1M hst rfl (.tmp rfl) v2 (fun _ _ h => h) (.cons .here <| .nil)
set_option maxRecDepth 100000 in
set_option maxHeartbeats 4000000 in
theorem c_lmots_form_digits_1 {G : GP} {Sy : Type} {yl : Sy → Int → Option Sy} {q_0 : T_lmots_form} {q_1 : List (BitVec 8)} {s0 : Sy} {L : Nat} {rc : Loop} {E : Sy → Ent} {r : Sy} (hY : ∀ s d s', yl s d = some s' → YieldC Tryd.prog G L rc (i64.slot d) (E s) (E s')) (h : lmots_form_digits_1 yl q_0 q_1 s0 = some r) : CtrY Tryd.prog G L rc 123 [val (yv L), ptrTo R_lmots_form q_0, ptrTo (sl u8) q_1] [E s0] (fun (_ : Unit) => tup []) (fun (_ : Unit) => [E r]) := by
  unfold lmots_form_digits_1 at h
  refine ctrY_of_run Tryd.func123 rfl 8 rfl rfl fun m0 w0 b0 hl hb => ?_
  show Run _ _ _ [(0, val (yv L)), (1, ptrTo R_lmots_form q_0), (2, ptrTo (sl u8) q_1)] _
  refine rt ?_
  refine jp (pl (ht rfl) (by kernel_rfl)) rfl rfl rfl ?_
  refine jp (pl (ht rfl) (by kernel_rfl)) rfl rfl rfl ?_
  refine jp (pm (ht rfl)) rfl rfl rfl ?_
  obtain ⟨y1, e2, h⟩ := bind_some h
  refine j_callY (hc (ht rfl) <| hc (ht rfl) <| hc (ht rfl) <| hasL_nil) (by kernel_rfl) hl hb (c_lmots_form_cut hY e2) rfl ?_
  refine j_end ?_
  obtain rfl := oi h
  exact run_nil fun a w hst => q_retN_n hst rfl (.nil) rfl () (fun _ _ h => h) (.cons .here <| .nil)
set_option maxRecDepth 100000 in
set_option maxHeartbeats 4000000 in
theorem c_lmots_form_digits {G : GP} {p_f : T_lmots_form} {p_h : T_api_Hash} {r : (List Int)} (h : lmots_form_digits p_f p_h = some r) : Ctr Tryd.prog G 104 [R_lmots_form.slot p_f, R_api_Hash.slot p_h] [] (fun (u0 : Value) => ov u0) (fun (u0 : Value) => [own 3 i64 u0 r]) := by
  unfold lmots_form_digits at h
  refine ctr_of_runM Tryd.func104 rfl 28 rfl rfl fun m0 w0 b0 => ?_
  show Run _ _ _ [(0, R_lmots_form.slot p_f), (1, R_api_Hash.slot p_h)] _
  refine rs ?_
  refine rt ?_
  refine jp (pj_box_to (ht rfl)) rfl rfl rfl ?_
  refine j_box (ht rfl) rfl fun b1 => ?_
  refine j_assign_nil (T := 3) i64 rfl fun v1 => ?_
  refine j_end ?_
  refine rs ?_
  refine rt ?_
  refine jp (pj_field_to (ht rfl) (Path.then (Path.snd i64 (prod i64 i64)) (Path.fst i64 i64)) (by kernel_rfl)) rfl rfl rfl ?_
  refine jp (pl (ht rfl) (by kernel_rfl)) rfl rfl rfl ?_
  obtain ⟨e1, h⟩ := grd_some h
  refine j_makeSlice (T := 3) (R := i64) (z := 0) has_i64 (ht rfl) (by decide) e1.1 e1.2 (by kernel_rfl) zero_i64 (by kernel_rfl) rfl fun v2 => ?_
  refine j_alloc (x := ([] : List Int)) (R := (sl i64)) zero_sl (by kernel_rfl) rfl fun b2 => ?_
  refine j_store_ow (ht rfl) (ht rfl) .here (by kernel_rfl) (by kernel_rfl) ?_
  refine j_end ?_
  refine rs ?_
  obtain ⟨r1, e2, h⟩ := bind_some h
  obtain ⟨e3, h⟩ := grd_some h
  refine run_keep (H' := [box b2 102 (exv v2) (), own 3 i64 v2 ([] : List Int), own 3 i64 v1 ([] : List Int), box b1 23 R_api_Hash p_h]) (.cons .here <| .cons .here <| .cons .here <| .cons .here <| .nil) ?_
  refine run_drawL (n := 6) (H := [box b2 102 (exv v2) (), own 3 i64 v2 ([] : List Int), own 3 i64 v1 ([] : List Int), box b1 23 R_api_Hash p_h]) (Ls := [⟨[], [(4, ⟨Value, fun (v3 : Value) => [own 5 u8 v3 (p_h.toList ++ r1)], fun (v3 : Value) => [(15, ov v3)]⟩)]⟩, ⟨[], [(5, ⟨Nat, fun (b3 : Nat) => [box b3 26 (sl u8) ([] : List (BitVec 8))], fun (b3 : Nat) => [(6, val (.pointer (some ⟨b3, 0, none⟩)))]⟩)]⟩]) (by kernel_rfl) (by kernel_rfl) (by kernel_rfl) (by kernel_rfl) (by kernel_rfl) rfl (.read rfl (.plain rfl (pj_slice_arrc (lo := 0) (sz := 1) (n := 32) (ht rfl) .no .no 32 32 rfl (by kernel_rfl))) <| .read rfl (.plain rfl (pl (ht rfl) (by kernel_rfl))) <| .read rfl (.plain rfl (pj_load_box (ht rfl) (.next (.next (.next .here))) (Path.all R_api_Hash) (by kernel_rfl))) <| .read rfl (.plain rfl (pj_call (hc (ht rfl) <| hc (ht rfl) <| hasL_nil) (by kernel_rfl) (Ctr.froze (c_lmots_form_sum e2)))) <| .step 0 rfl .here (.inl rfl) (fun i => ⟨_, _, fun j => j, (w_appendF (T := 5) (E := 5) (ht rfl) (src_arrF (ht rfl) (.next (.next (.next .here)))) (src_data (ht rfl)) (by kernel_rfl) (by kernel_rfl) e3 rfl), fun _ => rfl, slotAny, dst1⟩) <| .step 1 rfl .here (.inl rfl) (fun i => ⟨_, _, fun j => j, (w_alloc (x := ([] : List (BitVec 8))) (R := (sl u8)) zero_sl (by kernel_rfl) rfl), fun _ => rfl, slotAny, dst1⟩) <| .nil) ?_
  rintro v3 b3
  refine j_to (Γ' := [(2, ptrTo R_lmots_form p_f), (5, val (.pointer (some ⟨b2, 0, none⟩))), (6, val (.pointer (some ⟨b3, 0, none⟩))), (15, ov v3)]) (H' := [own 5 u8 v3 (p_h.toList ++ r1), box b3 26 (sl u8) ([] : List (BitVec 8)), box b2 102 (exv v2) (), own 3 i64 v2 ([] : List Int)]) (.cons (.of_lk rfl) <| .cons (.of_lk rfl) <| .cons (.of_lk rfl) <| .cons (.of_lk rfl) <| .nil) (.cons .here <| .cons .here <| .cons .here <| .cons .here <| .nil) ?_
  refine j_freeze [15] .here (frz_cons (.of_lk rfl) <| frz_nil) ?_
  refine j_store_boxx (r' := (p_h.toList ++ r1)) (ht rfl) (ht rfl) .here (Path.all (sl u8)) (by kernel_rfl) rfl ?_
  refine j_freezeTo (t := 6) .here (.of_lk rfl) ?_
  refine j_end ?_
  refine rs ?_
  refine rs ?_
  refine rt ?_
  refine jp (pj_makeFunc (hc (ht rfl) <| hc (ht rfl) <| hasL_nil)) rfl rfl rfl ?_
  refine j_end ?_
  refine run_block ?_
  refine run_to (Γ' := [(2, ptrTo R_lmots_form p_f), (5, val (.pointer (some ⟨b2, 0, none⟩))), (16, fnS 123 [ptrTo R_lmots_form p_f, ptrTo (sl u8) (p_h.toList ++ r1)])]) (H' := [box b2 102 (exv v2) (), own 3 i64 v2 ([] : List Int)]) (.cons (.of_lk rfl) <| .cons (.of_lk rfl) <| .cons (.of_lk rfl) <| .nil) (.cons .here <| .cons .here <| .nil) ?_
  obtain ⟨y2, e6, h⟩ := bind_some h
  refine run_rangeFunc (σ := (List Int)) (α := Int) (κ := Value) (Es := fun (i : Value) (s : (List Int)) => [box b2 102 (exv i) (), own 3 i64 i s]) (y := (fun (s : (List Int)) (d : Int) => lmots_form_digits_L1 p_f s d)) (sd := fun d => i64.slot d) (Γ1 := fun d => [(2, ptrTo R_lmots_form p_f), (5, val (.pointer (some ⟨b2, 0, none⟩))), (7, i64.slot d)]) v2 (ht rfl) (by kernel_rfl) rfl (.cons .here <| .cons .here <| .nil) (fun l rc G' hG hY => (c_lmots_form_digits_1 (E := fun (s : (List Int)) => packE fun (i : Value) => [box b2 102 (exv i) (), own 3 i64 i s]) hY e6)) ?_ ?_ ?_
  · clear h e6
    rintro lz mz wz bz v4 y1 d s2 h
    show Run _ _ _ ((17, i64.slot d) :: [(2, ptrTo R_lmots_form p_f), (5, val (.pointer (some ⟨b2, 0, none⟩))), (16, fnS 123 [ptrTo R_lmots_form p_f, ptrTo (sl u8) (p_h.toList ++ r1)])]) [box b2 102 (exv v4) (), own 3 i64 v4 y1]
    refine rt ?_
    refine jp (pa (ht rfl)) rfl rfl rfl ?_
    refine j_end ?_
    exact run_nil fun a w hst => ⟨rfl, (hst.sub (.cons (.of_lk rfl) <| .cons (.of_lk rfl) <| .cons (.of_lk rfl) <| .nil)).keep (.cons .here <| .cons .here <| .nil)⟩
  · clear h e6
    rintro lz mz wz bz v4 y1 d s2 h
    change lmots_form_digits_L1 p_f y1 d = some _ at h
    show Run _ _ _ [(2, ptrTo R_lmots_form p_f), (5, val (.pointer (some ⟨b2, 0, none⟩))), (7, i64.slot d)] [box b2 102 (exv v4) (), own 3 i64 v4 y1]
    unfold lmots_form_digits_L1 at h
    refine run_block ?_
    refine rs ?_
    refine rt ?_
    refine jp (pj_load_box (ht rfl) .here (Path.all (exv v4)) (by kernel_rfl)) rfl rfl rfl ?_
    refine jp (pj_len_own (sz := 1) (ht rfl) (.next .here) (by kernel_rfl)) rfl rfl rfl ?_
    refine jp (pj_field_to (ht rfl) (Path.then (Path.snd i64 (prod i64 i64)) (Path.fst i64 i64)) (by kernel_rfl)) rfl rfl rfl ?_
    refine jp (pl (ht rfl) (by kernel_rfl)) rfl rfl rfl ?_
    refine jp (pj_ilss (ht rfl) (ht rfl)) rfl rfl rfl ?_
    refine j_end ?_
    refine run_cond (ht rfl) (fun e4 => ?_) (fun e4 => ?_)
    · replace h := bt e4 h
      refine rt ?_
      refine jp (pj_load_box (ht rfl) .here (Path.all (exv v4)) (by kernel_rfl)) rfl rfl rfl ?_
      refine jp (pm (ht rfl)) rfl rfl rfl ?_
      refine jp (pj_buildSlice (T := 3) (R := i64) (.cons (ht rfl) .nil) rfl (by kernel_rfl) (by kernel_rfl)) rfl rfl rfl ?_
      obtain ⟨e5, h⟩ := grd_some h
      refine j_append (T := 3) (E := 3) (ht rfl) (.next .here) (src_data (ht rfl)) (by kernel_rfl) (by kernel_rfl) e5 rfl fun v5 => ?_
      refine j_store_ow (ht rfl) (ht rfl) (.next .here) (by kernel_rfl) (by kernel_rfl) ?_
      refine j_end ?_
      refine run_endblock ?_
      obtain rfl := oi h
      exact run_nil fun a w hst => ⟨rfl, v5, (hst.sub .nil).keep (.cons .here <| .cons .here <| .nil)⟩
    · replace h := bf e4 h
      refine run_skip ?_
      refine run_endblock ?_
      obtain rfl := oi h
      exact run_nil fun a w hst => ⟨rfl, v4, (hst.sub .nil).keep (.cons .here <| .cons .here <| .nil)⟩
  · rintro v6
    show Run _ _ _ [(2, ptrTo R_lmots_form p_f), (5, val (.pointer (some ⟨b2, 0, none⟩))), (16, fnS 123 [ptrTo R_lmots_form p_f, ptrTo (sl u8) (p_h.toList ++ r1)])] [box b2 102 (exv v6) (), own 3 i64 v6 y2]
    refine run_to (Γ' := [(5, val (.pointer (some ⟨b2, 0, none⟩)))]) (H' := [box b2 102 (exv v6) (), own 3 i64 v6 y2]) (.cons (.of_lk rfl) <| .nil) (.cons .here <| .cons .here <| .nil) ?_
    refine run_endblock ?_
    refine rs ?_
    refine rt ?_
    refine jp (pj_load_box (ht rfl) .here (Path.all (exv v6)) (by kernel_rfl)) rfl rfl rfl ?_
    refine jp (pa (ht rfl)) rfl rfl rfl ?_
    refine j_end ?_
    obtain rfl := oi h
    exact run_ret fun a w hst => q_ret1M hst rfl (.tmp rfl) v6 (fun _ _ h => h) (.cons (.next .here) <| .nil)
set_option maxRecDepth 100000 in
set_option maxHeartbeats 4000000 in
theorem c_math_bits_RotateLeft32 {G : GP} {p_x : BitVec 32} {p_k : Int} {r : (BitVec 32)} (h : math_bits_RotateLeft32 p_x p_k = some r) : Ctr Tryd.prog G 97 [u32.slot p_x, i64.slot p_k] [] (fun (_ : Unit) => u32.slot r) (fun (_ : Unit) => []) := by
  unfold math_bits_RotateLeft32 at h
  refine ctr_of_run Tryd.func97 rfl 17 rfl rfl fun m0 w0 b0 => ?_
  show Run _ _ _ [(0, u32.slot p_x), (1, i64.slot p_k)] _
  refine rs ?_
  refine rt ?_
  refine jp (pa (has_un (x := 0#32) rfl)) rfl rfl rfl ?_
  refine j_end ?_
  refine rs ?_
  refine rt ?_
  refine jp (pm (ht rfl)) rfl rfl rfl ?_
  refine jp (pj_conv_un (k := .u64) (b := 64) rfl rfl (by kernel_rfl) (ht rfl) isInt_i64) rfl rfl rfl ?_
  refine jp (pj_uand (k := .u64) (b := 64) rfl rfl (ht rfl) (has_un (x := 31#64) rfl)) rfl rfl rfl ?_
  refine jp (pa (ht rfl)) rfl rfl rfl ?_
  refine j_end ?_
  refine rs ?_
  refine rt ?_
  refine jp (pm (ht rfl)) rfl rfl rfl ?_
  refine jp (pm (ht rfl)) rfl rfl rfl ?_
  refine jp (pj_ushl (k := .u32) (b := 32) rfl rfl (ht rfl) (ht rfl) isInt_un (Int.natCast_nonneg _)) rfl rfl rfl ?_
  refine jp (pm (ht rfl)) rfl rfl rfl ?_
  refine jp (pm (ht rfl)) rfl rfl rfl ?_
  refine jp (pj_usub (k := .u64) (b := 64) rfl rfl (has_un (x := 32#64) rfl) (ht rfl)) rfl rfl rfl ?_
  refine jp (pj_ushr (k := .u32) (b := 32) rfl (ht rfl) (ht rfl) isInt_un (Int.natCast_nonneg _)) rfl rfl rfl ?_
  refine jp (pj_uor (k := .u32) (b := 32) rfl rfl (ht rfl) (ht rfl)) rfl rfl rfl ?_
  obtain ⟨x1, e1, h⟩ := bind_some h
  refine jp (PJ.eqv (pa (ht rfl)) (oi e1)) rfl rfl rfl ?_
  refine j_end ?_
  obtain rfl := oi h
  exact run_ret fun a w hst => q_ret1 hst rfl (.tmp rfl) () (fun _ _ h => h) (.nil)
set_option maxRecDepth 100000 in
set_option maxHeartbeats 4000000 in
theorem c_hash_schedule {G : GP} {p_block : List (BitVec 8)} {r : (Vector (BitVec 32) 64)} (h : hash_schedule p_block = some r) : Ctr Tryd.prog G 96 [(sl u8).slot p_block] [] (fun (_ : Unit) => (vec 64 u32).slot r) (fun (_ : Unit) => []) := by
  unfold hash_schedule at h
  refine ctr_of_run Tryd.func96 rfl 83 rfl rfl fun m0 w0 b0 => ?_
  show Run _ _ _ [(0, (sl u8).slot p_block)] _
  refine rs ?_
  refine rt ?_
  refine j_alloc (x := (Vector.replicate 64 (0#32))) (R := (vec 64 u32)) (zero_vec 64 zero_un) (by kernel_rfl) rfl fun b1 => ?_
  refine j_end ?_
  refine rs ?_
  refine rt ?_
  refine j_alloc (x := (Vector.replicate 64 (0#32))) (R := (vec 64 u32)) (zero_vec 64 zero_un) (by kernel_rfl) rfl fun b2 => ?_
  refine j_end ?_
  refine rs ?_
  refine rs ?_
  refine rt ?_
  refine jp (pm (ht rfl)) rfl rfl rfl ?_
  obtain ⟨x1, e1, h⟩ := bind_some h
  refine jp (pj_slice_slx (ht rfl) .no (.yes has_i64 isInt_i64) e1 (by kernel_rfl)) rfl rfl rfl ?_
  refine jp (pj_len_sl (sz := 1) (ht rfl) (by kernel_rfl)) rfl rfl rfl ?_
  refine jp (pm has_i64) rfl rfl rfl ?_
  refine j_end ?_
  obtain ⟨⟨y3, y4⟩, e7, h⟩ := bind_some h
  refine run_loopS (Γi := fun (i : Unit) (s : Int × (Vector (BitVec 32) 64)) => [(2, val (.pointer (some ⟨b1, 0, none⟩))), (3, val (.pointer (some ⟨b2, 0, none⟩))), (10, (sl u8).slot x1), (11, i64.slot (x1.length : Int)), (12, i64.slot s.1)]) (Hi := fun (i : Unit) (s : Int × (Vector (BitVec 32) 64)) => [box b2 151 (vec 64 u32) s.2, box b1 151 (vec 64 u32) (Vector.replicate 64 (0#32))]) e7 () (fun a w hst => (hst.sub (.cons (.of_lk rfl) <| .cons (.of_lk rfl) <| .cons (.of_lk rfl) <| .cons (.of_lk rfl) <| .cons (.of_lk rfl) <| .nil)).keep (.cons .here <| .cons .here <| .nil)) ?_ ?_
  · clear h e7
    rintro _ ⟨y1, y2⟩ lr h
    change hash_schedule_L1 x1 y1 y2 = some _ at h
    show Run _ _ _ [(2, val (.pointer (some ⟨b1, 0, none⟩))), (3, val (.pointer (some ⟨b2, 0, none⟩))), (10, (sl u8).slot x1), (11, i64.slot (x1.length : Int)), (12, i64.slot y1)] [box b2 151 (vec 64 u32) y2, box b1 151 (vec 64 u32) (Vector.replicate 64 (0#32))]
    unfold hash_schedule_L1 at h
    refine rs ?_
    refine rt ?_
    refine jp (pj_ilss (ht rfl) (ht rfl)) rfl rfl rfl ?_
    refine j_end ?_
    refine rs ?_
    refine run_cond (ht rfl) (fun e2 => ?_) (fun e2 => ?_)
    · replace h := bt e2 h
      refine run_skip ?_
      refine rs ?_
      refine run_block ?_
      refine rs ?_
      refine rt ?_
      refine jp (pm (ht rfl)) rfl rfl rfl ?_
      obtain ⟨x2, e3, h⟩ := bind_some h
      refine jp (pj_index_slx (ht rfl) (ht rfl) isInt_i64 e3 (by kernel_rfl)) rfl rfl rfl ?_
      refine jp (pl (ht rfl) (by kernel_rfl)) rfl rfl rfl ?_
      refine jp (pa (ht rfl)) rfl rfl rfl ?_
      refine jp (pa (ht rfl)) rfl rfl rfl ?_
      refine j_end ?_
      refine rt ?_
      refine jp (pm (ht rfl)) rfl rfl rfl ?_
      refine jp (pj_iquo (ht rfl) has_i64 (by decide)) rfl rfl rfl ?_
      refine jp (pm (ht rfl)) rfl rfl rfl ?_
      refine jp (pj_iquo (ht rfl) has_i64 (by decide)) rfl rfl rfl ?_
      obtain ⟨x3, e4, h⟩ := bind_some h
      refine jp (pj_index_arr (n := 64) (sz := 1) (ht rfl) (ht rfl) isInt_i64 (vget_some e4).1 (vget_lt e4) (by kernel_rfl)) rfl rfl rfl ?_
      refine jp (PJ.eqv (pj_load_box (ht rfl) .here (Path.then (Path.all (vec 64 u32)) (Path.atI 64 u32 ((w64 (Int.tdiv y1 (4 : Int))).toNat) (vget_some e4).2.1)) (by kernel_rfl)) (vget_eq e4 (vget_some e4).2.1)) rfl rfl rfl ?_
      refine jp (pj_ushl (k := .u32) (b := 32) rfl rfl (ht rfl) (has_un (x := 8#64) rfl) isInt_un (Int.natCast_nonneg _)) rfl rfl rfl ?_
      refine jp (pm (ht rfl)) rfl rfl rfl ?_
      refine jp (pj_conv_uu (k := .u32) (b := 32) rfl rfl (by kernel_rfl) (ht rfl)) rfl rfl rfl ?_
      refine jp (pj_uor (k := .u32) (b := 32) rfl rfl (ht rfl) (ht rfl)) rfl rfl rfl ?_
      obtain ⟨e5, h⟩ := grd_some h
      refine jp (pj_index_arr (n := 64) (sz := 1) (ht rfl) (ht rfl) isInt_i64 e5.1 e5.2 (by kernel_rfl)) rfl rfl rfl ?_
      obtain ⟨x4, e6, h⟩ := bind_some h
      refine j_store_boxx (r' := x4) (ht rfl) (ht rfl) .here (Path.then (Path.all (vec 64 u32)) (Path.atI 64 u32 ((w64 (Int.tdiv y1 (4 : Int))).toNat) (lt_nat e5))) (by kernel_rfl) (oi e6) ?_
      refine j_end ?_
      refine run_endblock ?_
      refine rt ?_
      refine jp (pj_iadd (ht rfl) has_i64) rfl rfl rfl ?_
      refine jp (pm (ht rfl)) rfl rfl rfl ?_
      refine j_end ?_
      obtain rfl := oi h
      exact run_next () (.cons (.of_lk rfl) <| .cons (.of_lk rfl) <| .cons (.of_lk rfl) <| .cons (.of_lk rfl) <| .cons (.of_lk rfl) <| .nil) (.cons .here <| .cons .here <| .nil)
    · replace h := bf e2 h
      obtain rfl := oi h
      exact run_brk () (.cons (.of_lk rfl) <| .cons (.of_lk rfl) <| .cons (.of_lk rfl) <| .cons (.of_lk rfl) <| .cons (.of_lk rfl) <| .nil) (.cons .here <| .cons .here <| .nil)
  · rintro _
    show Run _ _ _ [(2, val (.pointer (some ⟨b1, 0, none⟩))), (3, val (.pointer (some ⟨b2, 0, none⟩))), (10, (sl u8).slot x1), (11, i64.slot (x1.length : Int)), (12, i64.slot y3)] [box b2 151 (vec 64 u32) y4, box b1 151 (vec 64 u32) (Vector.replicate 64 (0#32))]
    refine run_to (Γ' := [(2, val (.pointer (some ⟨b1, 0, none⟩))), (3, val (.pointer (some ⟨b2, 0, none⟩)))]) (H' := [box b2 151 (vec 64 u32) y4, box b1 151 (vec 64 u32) (Vector.replicate 64 (0#32))]) (.cons (.of_lk rfl) <| .cons (.of_lk rfl) <| .nil) (.cons .here <| .cons .here <| .nil) ?_
    refine rs ?_
    refine rs ?_
    refine rt ?_
    refine jp (pa has_i64) rfl rfl rfl ?_
    refine j_end ?_
    obtain ⟨⟨y7, y8⟩, e23, h⟩ := bind_some h
    refine run_loopS (Γi := fun (i : Unit) (s : Int × (Vector (BitVec 32) 64)) => [(2, val (.pointer (some ⟨b1, 0, none⟩))), (3, val (.pointer (some ⟨b2, 0, none⟩))), (6, i64.slot s.1)]) (Hi := fun (i : Unit) (s : Int × (Vector (BitVec 32) 64)) => [box b2 151 (vec 64 u32) s.2, box b1 151 (vec 64 u32) (Vector.replicate 64 (0#32))]) e23 () (fun a w hst => (hst.sub (.cons (.of_lk rfl) <| .cons (.of_lk rfl) <| .cons (.of_lk rfl) <| .nil)).keep (.cons .here <| .cons .here <| .nil)) ?_ ?_
    · clear h e23
      rintro _ ⟨y5, y6⟩ lr h
      change hash_schedule_L2 y5 y6 = some _ at h
      show Run _ _ _ [(2, val (.pointer (some ⟨b1, 0, none⟩))), (3, val (.pointer (some ⟨b2, 0, none⟩))), (6, i64.slot y5)] [box b2 151 (vec 64 u32) y6, box b1 151 (vec 64 u32) (Vector.replicate 64 (0#32))]
      unfold hash_schedule_L2 at h
      refine rs ?_
      refine rs ?_
      refine rt ?_
      refine jp (pm (ht rfl)) rfl rfl rfl ?_
      refine jp (pj_ilss (ht rfl) has_i64) rfl rfl rfl ?_
      refine j_end ?_
      refine run_cond (ht rfl) (fun e8 => ?_) (fun e8 => ?_)
      · replace h := bt e8 h
        refine run_skip ?_
        refine rs ?_
        refine run_block ?_
        refine rs ?_
        obtain ⟨x5, e9, h⟩ := bind_some h
        obtain ⟨r1, e10, h⟩ := bind_some h
        obtain ⟨x6, e11, h⟩ := bind_some h
        obtain ⟨r2, e12, h⟩ := bind_some h
        obtain ⟨x7, e13, h⟩ := bind_some h
        refine run_draw (n := 16) (by kernel_rfl) (by kernel_rfl) (by kernel_rfl) (by kernel_rfl) (.read (.plain rfl (pm (ht rfl))) <| .read (.plain rfl (pj_isub (ht rfl) has_i64)) <| .read (.plain rfl (pj_index_arr (n := 64) (sz := 1) (ht rfl) (ht rfl) isInt_i64 (vget_some e9).1 (vget_lt e9) (by kernel_rfl))) <| .read (.plain rfl (PJ.eqv (pj_load_box (ht rfl) .here (Path.then (Path.all (vec 64 u32)) (Path.atI 64 u32 ((w64 (y5 - (15 : Int))).toNat) (vget_some e9).2.1)) (by kernel_rfl)) (vget_eq e9 (vget_some e9).2.1))) <| .read (.plain rfl (pj_call (hc (ht rfl) <| hc has_i64 <| hasL_nil) (by kernel_rfl) (c_math_bits_RotateLeft32 e10))) <| .read (.plain rfl (pm (ht rfl))) <| .read (.plain rfl (pj_isub (ht rfl) has_i64)) <| .read (.plain rfl (pj_index_arr (n := 64) (sz := 1) (ht rfl) (ht rfl) isInt_i64 (vget_some e11).1 (vget_lt e11) (by kernel_rfl))) <| .read (.plain rfl (PJ.eqv (pj_load_box (ht rfl) .here (Path.then (Path.all (vec 64 u32)) (Path.atI 64 u32 ((w64 (y5 - (15 : Int))).toNat) (vget_some e11).2.1)) (by kernel_rfl)) (vget_eq e11 (vget_some e11).2.1))) <| .read (.plain rfl (pj_call (hc (ht rfl) <| hc has_i64 <| hasL_nil) (by kernel_rfl) (c_math_bits_RotateLeft32 e12))) <| .read (.plain rfl (pj_uxor (k := .u32) (b := 32) rfl rfl (ht rfl) (ht rfl))) <| .read (.plain rfl (pm (ht rfl))) <| .read (.plain rfl (pj_isub (ht rfl) has_i64)) <| .read (.plain rfl (pj_index_arr (n := 64) (sz := 1) (ht rfl) (ht rfl) isInt_i64 (vget_some e13).1 (vget_lt e13) (by kernel_rfl))) <| .read (.plain rfl (PJ.eqv (pj_load_box (ht rfl) .here (Path.then (Path.all (vec 64 u32)) (Path.atI 64 u32 ((w64 (y5 - (15 : Int))).toNat) (vget_some e13).2.1)) (by kernel_rfl)) (vget_eq e13 (vget_some e13).2.1))) <| .read (.plain rfl (pj_ushr (k := .u32) (b := 32) rfl (ht rfl) (has_un (x := 3#64) rfl) isInt_un (Int.natCast_nonneg _))) <| .nil) (j_to (Γ' := [(2, val (.pointer (some ⟨b1, 0, none⟩))), (3, val (.pointer (some ⟨b2, 0, none⟩))), (6, i64.slot y5), (43, u32.slot (r1 ^^^ r2)), (48, u32.slot (x7 >>> 3))]) (H' := [box b2 151 (vec 64 u32) y6, box b1 151 (vec 64 u32) (Vector.replicate 64 (0#32))]) (.cons (.of_lk rfl) <| .cons (.of_lk rfl) <| .cons (.of_lk rfl) <| .cons (.of_lk rfl) <| .cons (.of_lk rfl) <| .nil) (.cons .here <| .cons .here <| .nil) ?_)
        refine jp (pj_uxor (k := .u32) (b := 32) rfl rfl (ht rfl) (ht rfl)) rfl rfl rfl ?_
        refine jp (pa (ht rfl)) rfl rfl rfl ?_
        refine j_end ?_
        refine rs ?_
        obtain ⟨x8, e14, h⟩ := bind_some h
        obtain ⟨r3, e15, h⟩ := bind_some h
        obtain ⟨x9, e16, h⟩ := bind_some h
        obtain ⟨r4, e17, h⟩ := bind_some h
        obtain ⟨x10, e18, h⟩ := bind_some h
        refine run_draw (n := 16) (by kernel_rfl) (by kernel_rfl) (by kernel_rfl) (by kernel_rfl) (.read (.plain rfl (pm (ht rfl))) <| .read (.plain rfl (pj_isub (ht rfl) has_i64)) <| .read (.plain rfl (pj_index_arr (n := 64) (sz := 1) (ht rfl) (ht rfl) isInt_i64 (vget_some e14).1 (vget_lt e14) (by kernel_rfl))) <| .read (.plain rfl (PJ.eqv (pj_load_box (ht rfl) .here (Path.then (Path.all (vec 64 u32)) (Path.atI 64 u32 ((w64 (y5 - (2 : Int))).toNat) (vget_some e14).2.1)) (by kernel_rfl)) (vget_eq e14 (vget_some e14).2.1))) <| .read (.plain rfl (pj_call (hc (ht rfl) <| hc has_i64 <| hasL_nil) (by kernel_rfl) (c_math_bits_RotateLeft32 e15))) <| .read (.plain rfl (pm (ht rfl))) <| .read (.plain rfl (pj_isub (ht rfl) has_i64)) <| .read (.plain rfl (pj_index_arr (n := 64) (sz := 1) (ht rfl) (ht rfl) isInt_i64 (vget_some e16).1 (vget_lt e16) (by kernel_rfl))) <| .read (.plain rfl (PJ.eqv (pj_load_box (ht rfl) .here (Path.then (Path.all (vec 64 u32)) (Path.atI 64 u32 ((w64 (y5 - (2 : Int))).toNat) (vget_some e16).2.1)) (by kernel_rfl)) (vget_eq e16 (vget_some e16).2.1))) <| .read (.plain rfl (pj_call (hc (ht rfl) <| hc has_i64 <| hasL_nil) (by kernel_rfl) (c_math_bits_RotateLeft32 e17))) <| .read (.plain rfl (pj_uxor (k := .u32) (b := 32) rfl rfl (ht rfl) (ht rfl))) <| .read (.plain rfl (pm (ht rfl))) <| .read (.plain rfl (pj_isub (ht rfl) has_i64)) <| .read (.plain rfl (pj_index_arr (n := 64) (sz := 1) (ht rfl) (ht rfl) isInt_i64 (vget_some e18).1 (vget_lt e18) (by kernel_rfl))) <| .read (.plain rfl (PJ.eqv (pj_load_box (ht rfl) .here (Path.then (Path.all (vec 64 u32)) (Path.atI 64 u32 ((w64 (y5 - (2 : Int))).toNat) (vget_some e18).2.1)) (by kernel_rfl)) (vget_eq e18 (vget_some e18).2.1))) <| .read (.plain rfl (pj_ushr (k := .u32) (b := 32) rfl (ht rfl) (has_un (x := 10#64) rfl) isInt_un (Int.natCast_nonneg _))) <| .nil) (j_to (Γ' := [(2, val (.pointer (some ⟨b1, 0, none⟩))), (3, val (.pointer (some ⟨b2, 0, none⟩))), (6, i64.slot y5), (7, u32.slot ((r1 ^^^ r2) ^^^ (x7 >>> 3))), (60, u32.slot (r3 ^^^ r4)), (65, u32.slot (x10 >>> 10))]) (H' := [box b2 151 (vec 64 u32) y6, box b1 151 (vec 64 u32) (Vector.replicate 64 (0#32))]) (.cons (.of_lk rfl) <| .cons (.of_lk rfl) <| .cons (.of_lk rfl) <| .cons (.of_lk rfl) <| .cons (.of_lk rfl) <| .cons (.of_lk rfl) <| .nil) (.cons .here <| .cons .here <| .nil) ?_)
        refine jp (pj_uxor (k := .u32) (b := 32) rfl rfl (ht rfl) (ht rfl)) rfl rfl rfl ?_
        refine jp (pa (ht rfl)) rfl rfl rfl ?_
        refine j_end ?_
        obtain ⟨x11, e19, h⟩ := bind_some h
        obtain ⟨x12, e20, h⟩ := bind_some h
        refine run_draw (n := 14) (by kernel_rfl) (by kernel_rfl) (by kernel_rfl) (by kernel_rfl) (.read (.plain rfl (pm (ht rfl))) <| .read (.plain rfl (pm (ht rfl))) <| .read (.plain rfl (pj_isub (ht rfl) has_i64)) <| .read (.plain rfl (pj_index_arr (n := 64) (sz := 1) (ht rfl) (ht rfl) isInt_i64 (vget_some e19).1 (vget_lt e19) (by kernel_rfl))) <| .read (.plain rfl (PJ.eqv (pj_load_box (ht rfl) .here (Path.then (Path.all (vec 64 u32)) (Path.atI 64 u32 ((w64 (y5 - (16 : Int))).toNat) (vget_some e19).2.1)) (by kernel_rfl)) (vget_eq e19 (vget_some e19).2.1))) <| .read (.plain rfl (pm (ht rfl))) <| .read (.plain rfl (pj_uadd (k := .u32) (b := 32) rfl rfl (ht rfl) (ht rfl))) <| .read (.plain rfl (pm (ht rfl))) <| .read (.plain rfl (pj_isub (ht rfl) has_i64)) <| .read (.plain rfl (pj_index_arr (n := 64) (sz := 1) (ht rfl) (ht rfl) isInt_i64 (vget_some e20).1 (vget_lt e20) (by kernel_rfl))) <| .read (.plain rfl (PJ.eqv (pj_load_box (ht rfl) .here (Path.then (Path.all (vec 64 u32)) (Path.atI 64 u32 ((w64 (y5 - (7 : Int))).toNat) (vget_some e20).2.1)) (by kernel_rfl)) (vget_eq e20 (vget_some e20).2.1))) <| .read (.plain rfl (pj_uadd (k := .u32) (b := 32) rfl rfl (ht rfl) (ht rfl))) <| .read (.plain rfl (pm (ht rfl))) <| .read (.plain rfl (pj_uadd (k := .u32) (b := 32) rfl rfl (ht rfl) (ht rfl))) <| .nil) (j_to (Γ' := [(2, val (.pointer (some ⟨b1, 0, none⟩))), (3, val (.pointer (some ⟨b2, 0, none⟩))), (6, i64.slot y5), (67, i64.slot y5), (80, u32.slot (((x11 + ((r1 ^^^ r2) ^^^ (x7 >>> 3))) + x12) + ((r3 ^^^ r4) ^^^ (x10 >>> 10))))]) (H' := [box b2 151 (vec 64 u32) y6, box b1 151 (vec 64 u32) (Vector.replicate 64 (0#32))]) (.cons (.of_lk rfl) <| .cons (.of_lk rfl) <| .cons (.of_lk rfl) <| .cons (.of_lk rfl) <| .cons (.of_lk rfl) <| .nil) (.cons .here <| .cons .here <| .nil) ?_)
        obtain ⟨e21, h⟩ := grd_some h
        refine jp (pj_index_arr (n := 64) (sz := 1) (ht rfl) (ht rfl) isInt_i64 e21.1 e21.2 (by kernel_rfl)) rfl rfl rfl ?_
        obtain ⟨x13, e22, h⟩ := bind_some h
        refine j_store_boxx (r' := x13) (ht rfl) (ht rfl) .here (Path.then (Path.all (vec 64 u32)) (Path.atI 64 u32 y5.toNat (lt_nat e21))) (by kernel_rfl) (oi e22) ?_
        refine j_end ?_
        refine run_endblock ?_
        refine rt ?_
        refine jp (pm (ht rfl)) rfl rfl rfl ?_
        refine jp (pj_iadd (ht rfl) has_i64) rfl rfl rfl ?_
        refine jp (pa (ht rfl)) rfl rfl rfl ?_
        refine j_end ?_
        obtain rfl := oi h
        exact run_next () (.cons (.of_lk rfl) <| .cons (.of_lk rfl) <| .cons (.of_lk rfl) <| .nil) (.cons .here <| .cons .here <| .nil)
      · replace h := bf e8 h
        obtain rfl := oi h
        exact run_brk () (.cons (.of_lk rfl) <| .cons (.of_lk rfl) <| .cons (.of_lk rfl) <| .nil) (.cons .here <| .cons .here <| .nil)
    · rintro _
      show Run _ _ _ [(2, val (.pointer (some ⟨b1, 0, none⟩))), (3, val (.pointer (some ⟨b2, 0, none⟩))), (6, i64.slot y7)] [box b2 151 (vec 64 u32) y8, box b1 151 (vec 64 u32) (Vector.replicate 64 (0#32))]
      refine run_to (Γ' := [(2, val (.pointer (some ⟨b1, 0, none⟩))), (3, val (.pointer (some ⟨b2, 0, none⟩)))]) (H' := [box b2 151 (vec 64 u32) y8, box b1 151 (vec 64 u32) (Vector.replicate 64 (0#32))]) (.cons (.of_lk rfl) <| .cons (.of_lk rfl) <| .nil) (.cons .here <| .cons .here <| .nil) ?_
      refine rs ?_
      refine rt ?_
      refine jp (pj_load_box (ht rfl) .here (Path.all (vec 64 u32)) (by kernel_rfl)) rfl rfl rfl ?_
      refine j_store_boxx (r' := y8) (ht rfl) (ht rfl) (.next .here) (Path.all (vec 64 u32)) (by kernel_rfl) rfl ?_
      refine j_end ?_
      obtain rfl := oi h
      exact run_ret fun a w hst => q_ret1 hst rfl (.cell rfl .here (by kernel_rfl)) () (fun _ _ h => h) (.nil)
set_option maxRecDepth 100000 in
set_option maxHeartbeats 4000000 in
theorem c_hash_state_block {G : GP} (hg1 : HG1 G) {p_s : T_hash_state} {p_b : List (BitVec 8)} {r : T_hash_state} (h : hash_state_block p_s p_b = some r) : Ctr Tryd.prog G 71 [R_hash_state.slot p_s, (sl u8).slot p_b] [] (fun (_ : Unit) => R_hash_state.slot r) (fun (_ : Unit) => []) := by
  unfold hash_state_block at h
  refine ctr_of_run Tryd.func71 rfl 115 rfl rfl fun m0 w0 b0 => ?_
  show Run _ _ _ [(0, R_hash_state.slot p_s), (1, (sl u8).slot p_b)] _
  refine rs ?_
  refine rt ?_
  refine j_box (ht rfl) rfl fun b1 => ?_
  refine j_alloc (x := (Vector.replicate 8 (0#32))) (R := R_hash_state) (zero_vec 8 zero_un) (by kernel_rfl) rfl fun b2 => ?_
  refine j_end ?_
  refine rs ?_
  refine rt ?_
  refine jp (pm (ht rfl)) rfl rfl rfl ?_
  obtain ⟨r1, e1, h⟩ := bind_some h
  refine jp (pj_call (hc (ht rfl) <| hasL_nil) (by kernel_rfl) (c_hash_schedule e1)) rfl rfl rfl ?_
  refine j_alloc (x := (Vector.replicate 64 (0#32))) (R := (vec 64 u32)) (zero_vec 64 zero_un) (by kernel_rfl) rfl fun b3 => ?_
  refine j_store_boxx (r' := r1) (ht rfl) (ht rfl) .here (Path.all (vec 64 u32)) (by kernel_rfl) rfl ?_
  refine j_freezeTo (t := 5) .here (.of_lk rfl) ?_
  refine j_end ?_
  refine rs ?_
  refine rt ?_
  refine jp (pj_load_box (ht rfl) (.next .here) (Path.all R_hash_state) (by kernel_rfl)) rfl rfl rfl ?_
  refine j_alloc (x := (Vector.replicate 8 (0#32))) (R := R_hash_state) (zero_vec 8 zero_un) (by kernel_rfl) rfl fun b4 => ?_
  refine j_store_boxx (r' := p_s) (ht rfl) (ht rfl) .here (Path.all R_hash_state) (by kernel_rfl) rfl ?_
  refine j_end ?_
  refine rs ?_
  refine rs ?_
  refine rt ?_
  refine jp (pm has_i64) rfl rfl rfl ?_
  refine j_end ?_
  obtain ⟨⟨y3, y4⟩, e14, h⟩ := bind_some h
  refine run_loopS (Γi := fun (i : Unit) (s : Int × T_hash_state) => [(2, val (.pointer (some ⟨b1, 0, none⟩))), (4, val (.pointer (some ⟨b2, 0, none⟩))), (5, ptrTo (vec 64 u32) r1), (6, val (.pointer (some ⟨b4, 0, none⟩))), (16, i64.slot s.1)]) (Hi := fun (i : Unit) (s : Int × T_hash_state) => [box b4 127 R_hash_state s.2, box b2 127 R_hash_state (Vector.replicate 8 (0#32)), box b1 127 R_hash_state p_s]) e14 () (fun a w hst => (hst.sub (.cons (.of_lk rfl) <| .cons (.of_lk rfl) <| .cons (.of_lk rfl) <| .cons (.of_lk rfl) <| .cons (.of_lk rfl) <| .nil)).keep (.cons .here <| .cons .here <| .cons .here <| .nil)) ?_ ?_
  · clear h e14
    rintro _ ⟨y1, y2⟩ lr h
    change hash_state_block_L1 r1 y1 y2 = some _ at h
    show Run _ _ _ [(2, val (.pointer (some ⟨b1, 0, none⟩))), (4, val (.pointer (some ⟨b2, 0, none⟩))), (5, ptrTo (vec 64 u32) r1), (6, val (.pointer (some ⟨b4, 0, none⟩))), (16, i64.slot y1)] [box b4 127 R_hash_state y2, box b2 127 R_hash_state (Vector.replicate 8 (0#32)), box b1 127 R_hash_state p_s]
    unfold hash_state_block_L1 at h
    refine rs ?_
    refine rt ?_
    refine jp (pj_ilss (ht rfl) has_i64) rfl rfl rfl ?_
    refine j_end ?_
    refine rs ?_
    refine run_cond (ht rfl) (fun e2 => ?_) (fun e2 => ?_)
    · replace h := bt e2 h
      refine run_skip ?_
      refine rs ?_
      refine run_block ?_
      refine rs ?_
      refine rt ?_
      refine jp (pm (ht rfl)) rfl rfl rfl ?_
      refine jp (pa (ht rfl)) rfl rfl rfl ?_
      refine j_end ?_
      refine rs ?_
      obtain ⟨r2, e3, h⟩ := bind_some h
      obtain ⟨r3, e4, h⟩ := bind_some h
      obtain ⟨r4, e5, h⟩ := bind_some h
      refine run_draw (n := 10) (by kernel_rfl) (by kernel_rfl) (by kernel_rfl) (by kernel_rfl) (.read (.plain rfl (pj_index_arr (n := 8) (sz := 1) (ht rfl) has_i64 isInt_i64 (by decide) (by decide) (by kernel_rfl))) <| .read (.plain rfl (pj_load_box (ht rfl) .here (Path.then (Path.all R_hash_state) (Path.at 8 u32 4 (by decide))) (by kernel_rfl))) <| .read (.plain rfl (pj_call (hc (ht rfl) <| hc has_i64 <| hasL_nil) (by kernel_rfl) (c_math_bits_RotateLeft32 e3))) <| .read (.plain rfl (pj_index_arr (n := 8) (sz := 1) (ht rfl) has_i64 isInt_i64 (by decide) (by decide) (by kernel_rfl))) <| .read (.plain rfl (pj_load_box (ht rfl) .here (Path.then (Path.all R_hash_state) (Path.at 8 u32 4 (by decide))) (by kernel_rfl))) <| .read (.plain rfl (pj_call (hc (ht rfl) <| hc has_i64 <| hasL_nil) (by kernel_rfl) (c_math_bits_RotateLeft32 e4))) <| .read (.plain rfl (pj_uxor (k := .u32) (b := 32) rfl rfl (ht rfl) (ht rfl))) <| .read (.plain rfl (pj_index_arr (n := 8) (sz := 1) (ht rfl) has_i64 isInt_i64 (by decide) (by decide) (by kernel_rfl))) <| .read (.plain rfl (pj_load_box (ht rfl) .here (Path.then (Path.all R_hash_state) (Path.at 8 u32 4 (by decide))) (by kernel_rfl))) <| .read (.plain rfl (pj_call (hc (ht rfl) <| hc has_i64 <| hasL_nil) (by kernel_rfl) (c_math_bits_RotateLeft32 e5))) <| .nil) (j_to (Γ' := [(2, val (.pointer (some ⟨b1, 0, none⟩))), (4, val (.pointer (some ⟨b2, 0, none⟩))), (5, ptrTo (vec 64 u32) r1), (6, val (.pointer (some ⟨b4, 0, none⟩))), (7, i64.slot y1), (16, i64.slot y1), (25, u32.slot (r2 ^^^ r3)), (28, u32.slot r4)]) (H' := [box b4 127 R_hash_state y2, box b2 127 R_hash_state (Vector.replicate 8 (0#32)), box b1 127 R_hash_state p_s]) (.cons (.of_lk rfl) <| .cons (.of_lk rfl) <| .cons (.of_lk rfl) <| .cons (.of_lk rfl) <| .cons (.of_lk rfl) <| .cons (.of_lk rfl) <| .cons (.of_lk rfl) <| .cons (.of_lk rfl) <| .nil) (.cons .here <| .cons .here <| .cons .here <| .nil) ?_)
      refine jp (pj_uxor (k := .u32) (b := 32) rfl rfl (ht rfl) (ht rfl)) rfl rfl rfl ?_
      refine jp (pa (ht rfl)) rfl rfl rfl ?_
      refine j_end ?_
      refine rs ?_
      obtain ⟨x1, e6, h⟩ := bind_some h
      obtain ⟨x2, e7, h⟩ := bind_some h
      refine run_draw (n := 23) (by kernel_rfl) (by kernel_rfl) (by kernel_rfl) (by kernel_rfl) (.read (.plain rfl (pj_index_arr (n := 8) (sz := 1) (ht rfl) has_i64 isInt_i64 (by decide) (by decide) (by kernel_rfl))) <| .read (.plain rfl (pj_load_box (ht rfl) .here (Path.then (Path.all R_hash_state) (Path.at 8 u32 7 (by decide))) (by kernel_rfl))) <| .read (.plain rfl (pm (ht rfl))) <| .read (.plain rfl (pj_uadd (k := .u32) (b := 32) rfl rfl (ht rfl) (ht rfl))) <| .read (.plain rfl (pj_index_arr (n := 8) (sz := 1) (ht rfl) has_i64 isInt_i64 (by decide) (by decide) (by kernel_rfl))) <| .read (.plain rfl (pj_load_box (ht rfl) .here (Path.then (Path.all R_hash_state) (Path.at 8 u32 6 (by decide))) (by kernel_rfl))) <| .read (.plain rfl (pj_index_arr (n := 8) (sz := 1) (ht rfl) has_i64 isInt_i64 (by decide) (by decide) (by kernel_rfl))) <| .read (.plain rfl (pj_load_box (ht rfl) .here (Path.then (Path.all R_hash_state) (Path.at 8 u32 4 (by decide))) (by kernel_rfl))) <| .read (.plain rfl (pj_index_arr (n := 8) (sz := 1) (ht rfl) has_i64 isInt_i64 (by decide) (by decide) (by kernel_rfl))) <| .read (.plain rfl (pj_load_box (ht rfl) .here (Path.then (Path.all R_hash_state) (Path.at 8 u32 5 (by decide))) (by kernel_rfl))) <| .read (.plain rfl (pj_index_arr (n := 8) (sz := 1) (ht rfl) has_i64 isInt_i64 (by decide) (by decide) (by kernel_rfl))) <| .read (.plain rfl (pj_load_box (ht rfl) .here (Path.then (Path.all R_hash_state) (Path.at 8 u32 6 (by decide))) (by kernel_rfl))) <| .read (.plain rfl (pj_uxor (k := .u32) (b := 32) rfl rfl (ht rfl) (ht rfl))) <| .read (.plain rfl (pj_uand (k := .u32) (b := 32) rfl rfl (ht rfl) (ht rfl))) <| .read (.plain rfl (pj_uxor (k := .u32) (b := 32) rfl rfl (ht rfl) (ht rfl))) <| .read (.plain rfl (pj_uadd (k := .u32) (b := 32) rfl rfl (ht rfl) (ht rfl))) <| .read (.plain rfl (pm (ht rfl))) <| .read (.plain rfl (pj_index_gx (v := G_hash_rounds) hg1 (ht rfl) isInt_i64 e6 (by kernel_rfl))) <| .read (.plain rfl (pl (ht rfl) (by kernel_rfl))) <| .read (.plain rfl (pj_uadd (k := .u32) (b := 32) rfl rfl (ht rfl) (ht rfl))) <| .read (.plain rfl (pm (ht rfl))) <| .read (.plain rfl (pj_index_tox (ht rfl) (ht rfl) isInt_i64 e7 (by kernel_rfl))) <| .read (.plain rfl (pl (ht rfl) (by kernel_rfl))) <| .nil) (j_to (Γ' := [(2, val (.pointer (some ⟨b1, 0, none⟩))), (4, val (.pointer (some ⟨b2, 0, none⟩))), (5, ptrTo (vec 64 u32) r1), (6, val (.pointer (some ⟨b4, 0, none⟩))), (16, i64.slot y1), (49, u32.slot ((((y2[7]) + ((r2 ^^^ r3) ^^^ r4)) + ((y2[6]) ^^^ ((y2[4]) &&& ((y2[5]) ^^^ (y2[6]))))) + x1)), (52, u32.slot x2)]) (H' := [box b4 127 R_hash_state y2, box b2 127 R_hash_state (Vector.replicate 8 (0#32)), box b1 127 R_hash_state p_s]) (.cons (.of_lk rfl) <| .cons (.of_lk rfl) <| .cons (.of_lk rfl) <| .cons (.of_lk rfl) <| .cons (.of_lk rfl) <| .cons (.of_lk rfl) <| .cons (.of_lk rfl) <| .nil) (.cons .here <| .cons .here <| .cons .here <| .nil) ?_)
      refine jp (pj_uadd (k := .u32) (b := 32) rfl rfl (ht rfl) (ht rfl)) rfl rfl rfl ?_
      obtain ⟨x3, e8, h⟩ := bind_some h
      refine jp (PJ.eqv (pa (ht rfl)) (oi e8)) rfl rfl rfl ?_
      refine j_end ?_
      refine rs ?_
      obtain ⟨r5, e9, h⟩ := bind_some h
      obtain ⟨r6, e10, h⟩ := bind_some h
      obtain ⟨r7, e11, h⟩ := bind_some h
      refine run_draw (n := 10) (by kernel_rfl) (by kernel_rfl) (by kernel_rfl) (by kernel_rfl) (.read (.plain rfl (pj_index_arr (n := 8) (sz := 1) (ht rfl) has_i64 isInt_i64 (by decide) (by decide) (by kernel_rfl))) <| .read (.plain rfl (pj_load_box (ht rfl) .here (Path.then (Path.all R_hash_state) (Path.at 8 u32 0 (by decide))) (by kernel_rfl))) <| .read (.plain rfl (pj_call (hc (ht rfl) <| hc has_i64 <| hasL_nil) (by kernel_rfl) (c_math_bits_RotateLeft32 e9))) <| .read (.plain rfl (pj_index_arr (n := 8) (sz := 1) (ht rfl) has_i64 isInt_i64 (by decide) (by decide) (by kernel_rfl))) <| .read (.plain rfl (pj_load_box (ht rfl) .here (Path.then (Path.all R_hash_state) (Path.at 8 u32 0 (by decide))) (by kernel_rfl))) <| .read (.plain rfl (pj_call (hc (ht rfl) <| hc has_i64 <| hasL_nil) (by kernel_rfl) (c_math_bits_RotateLeft32 e10))) <| .read (.plain rfl (pj_uxor (k := .u32) (b := 32) rfl rfl (ht rfl) (ht rfl))) <| .read (.plain rfl (pj_index_arr (n := 8) (sz := 1) (ht rfl) has_i64 isInt_i64 (by decide) (by decide) (by kernel_rfl))) <| .read (.plain rfl (pj_load_box (ht rfl) .here (Path.then (Path.all R_hash_state) (Path.at 8 u32 0 (by decide))) (by kernel_rfl))) <| .read (.plain rfl (pj_call (hc (ht rfl) <| hc has_i64 <| hasL_nil) (by kernel_rfl) (c_math_bits_RotateLeft32 e11))) <| .nil) (j_to (Γ' := [(2, val (.pointer (some ⟨b1, 0, none⟩))), (4, val (.pointer (some ⟨b2, 0, none⟩))), (5, ptrTo (vec 64 u32) r1), (6, val (.pointer (some ⟨b4, 0, none⟩))), (9, u32.slot x3), (16, i64.slot y1), (60, u32.slot (r5 ^^^ r6)), (63, u32.slot r7)]) (H' := [box b4 127 R_hash_state y2, box b2 127 R_hash_state (Vector.replicate 8 (0#32)), box b1 127 R_hash_state p_s]) (.cons (.of_lk rfl) <| .cons (.of_lk rfl) <| .cons (.of_lk rfl) <| .cons (.of_lk rfl) <| .cons (.of_lk rfl) <| .cons (.of_lk rfl) <| .cons (.of_lk rfl) <| .cons (.of_lk rfl) <| .nil) (.cons .here <| .cons .here <| .cons .here <| .nil) ?_)
      refine jp (pj_uxor (k := .u32) (b := 32) rfl rfl (ht rfl) (ht rfl)) rfl rfl rfl ?_
      refine jp (pa (ht rfl)) rfl rfl rfl ?_
      refine j_end ?_
      refine rs ?_
      refine rt ?_
      refine jp (pm (ht rfl)) rfl rfl rfl ?_
      refine jp (pj_index_arr (n := 8) (sz := 1) (ht rfl) has_i64 isInt_i64 (by decide) (by decide) (by kernel_rfl)) rfl rfl rfl ?_
      refine jp (pj_load_box (ht rfl) .here (Path.then (Path.all R_hash_state) (Path.at 8 u32 0 (by decide))) (by kernel_rfl)) rfl rfl rfl ?_
      refine jp (pj_index_arr (n := 8) (sz := 1) (ht rfl) has_i64 isInt_i64 (by decide) (by decide) (by kernel_rfl)) rfl rfl rfl ?_
      refine jp (pj_load_box (ht rfl) .here (Path.then (Path.all R_hash_state) (Path.at 8 u32 1 (by decide))) (by kernel_rfl)) rfl rfl rfl ?_
      refine jp (pj_uand (k := .u32) (b := 32) rfl rfl (ht rfl) (ht rfl)) rfl rfl rfl ?_
      refine jp (pj_index_arr (n := 8) (sz := 1) (ht rfl) has_i64 isInt_i64 (by decide) (by decide) (by kernel_rfl)) rfl rfl rfl ?_
      refine jp (pj_load_box (ht rfl) .here (Path.then (Path.all R_hash_state) (Path.at 8 u32 2 (by decide))) (by kernel_rfl)) rfl rfl rfl ?_
      refine jp (pj_index_arr (n := 8) (sz := 1) (ht rfl) has_i64 isInt_i64 (by decide) (by decide) (by kernel_rfl)) rfl rfl rfl ?_
      refine jp (pj_load_box (ht rfl) .here (Path.then (Path.all R_hash_state) (Path.at 8 u32 0 (by decide))) (by kernel_rfl)) rfl rfl rfl ?_
      refine jp (pj_index_arr (n := 8) (sz := 1) (ht rfl) has_i64 isInt_i64 (by decide) (by decide) (by kernel_rfl)) rfl rfl rfl ?_
      refine jp (pj_load_box (ht rfl) .here (Path.then (Path.all R_hash_state) (Path.at 8 u32 1 (by decide))) (by kernel_rfl)) rfl rfl rfl ?_
      refine jp (pj_uor (k := .u32) (b := 32) rfl rfl (ht rfl) (ht rfl)) rfl rfl rfl ?_
      refine jp (pj_uand (k := .u32) (b := 32) rfl rfl (ht rfl) (ht rfl)) rfl rfl rfl ?_
      refine jp (pj_uor (k := .u32) (b := 32) rfl rfl (ht rfl) (ht rfl)) rfl rfl rfl ?_
      refine jp (pj_uadd (k := .u32) (b := 32) rfl rfl (ht rfl) (ht rfl)) rfl rfl rfl ?_
      obtain ⟨x4, e12, h⟩ := bind_some h
      refine jp (PJ.eqv (pa (ht rfl)) (oi e12)) rfl rfl rfl ?_
      refine j_end ?_
      refine rt ?_
      refine jp (pm (ht rfl)) rfl rfl rfl ?_
      refine jp (pm (ht rfl)) rfl rfl rfl ?_
      refine jp (pj_uadd (k := .u32) (b := 32) rfl rfl (ht rfl) (ht rfl)) rfl rfl rfl ?_
      refine jp (pj_index_arr (n := 8) (sz := 1) (ht rfl) has_i64 isInt_i64 (by decide) (by decide) (by kernel_rfl)) rfl rfl rfl ?_
      refine jp (pj_load_box (ht rfl) .here (Path.then (Path.all R_hash_state) (Path.at 8 u32 0 (by decide))) (by kernel_rfl)) rfl rfl rfl ?_
      refine jp (pj_index_arr (n := 8) (sz := 1) (ht rfl) has_i64 isInt_i64 (by decide) (by decide) (by kernel_rfl)) rfl rfl rfl ?_
      refine jp (pj_load_box (ht rfl) .here (Path.then (Path.all R_hash_state) (Path.at 8 u32 1 (by decide))) (by kernel_rfl)) rfl rfl rfl ?_
      refine jp (pj_index_arr (n := 8) (sz := 1) (ht rfl) has_i64 isInt_i64 (by decide) (by decide) (by kernel_rfl)) rfl rfl rfl ?_
      refine jp (pj_load_box (ht rfl) .here (Path.then (Path.all R_hash_state) (Path.at 8 u32 2 (by decide))) (by kernel_rfl)) rfl rfl rfl ?_
      refine jp (pj_index_arr (n := 8) (sz := 1) (ht rfl) has_i64 isInt_i64 (by decide) (by decide) (by kernel_rfl)) rfl rfl rfl ?_
      refine jp (pj_load_box (ht rfl) .here (Path.then (Path.all R_hash_state) (Path.at 8 u32 3 (by decide))) (by kernel_rfl)) rfl rfl rfl ?_
      refine jp (pm (ht rfl)) rfl rfl rfl ?_
      refine jp (pj_uadd (k := .u32) (b := 32) rfl rfl (ht rfl) (ht rfl)) rfl rfl rfl ?_
      refine jp (pj_index_arr (n := 8) (sz := 1) (ht rfl) has_i64 isInt_i64 (by decide) (by decide) (by kernel_rfl)) rfl rfl rfl ?_
      refine jp (pj_load_box (ht rfl) .here (Path.then (Path.all R_hash_state) (Path.at 8 u32 4 (by decide))) (by kernel_rfl)) rfl rfl rfl ?_
      refine jp (pj_index_arr (n := 8) (sz := 1) (ht rfl) has_i64 isInt_i64 (by decide) (by decide) (by kernel_rfl)) rfl rfl rfl ?_
      refine jp (pj_load_box (ht rfl) .here (Path.then (Path.all R_hash_state) (Path.at 8 u32 5 (by decide))) (by kernel_rfl)) rfl rfl rfl ?_
      refine jp (pj_index_arr (n := 8) (sz := 1) (ht rfl) has_i64 isInt_i64 (by decide) (by decide) (by kernel_rfl)) rfl rfl rfl ?_
      refine jp (pj_load_box (ht rfl) .here (Path.then (Path.all R_hash_state) (Path.at 8 u32 6 (by decide))) (by kernel_rfl)) rfl rfl rfl ?_
      obtain ⟨x5, e13, h⟩ := bind_some h
      refine jp (PJ.eqv (pj_buildArr (z0 := 0#32) (zero_vec 8 zero_un) (by kernel_rfl) (.cons (ht rfl) (.cons (ht rfl) (.cons (ht rfl) (.cons (ht rfl) (.cons (ht rfl) (.cons (ht rfl) (.cons (ht rfl) (.cons (ht rfl) .nil)))))))) (by kernel_rfl) rfl) (oi e13)) rfl rfl rfl ?_
      refine j_store_boxx (r' := x5) (ht rfl) (ht rfl) .here (Path.all R_hash_state) (by kernel_rfl) rfl ?_
      refine j_end ?_
      refine run_endblock ?_
      refine rt ?_
      refine jp (pj_iadd (ht rfl) has_i64) rfl rfl rfl ?_
      refine jp (pm (ht rfl)) rfl rfl rfl ?_
      refine j_end ?_
      obtain rfl := oi h
      exact run_next () (.cons (.of_lk rfl) <| .cons (.of_lk rfl) <| .cons (.of_lk rfl) <| .cons (.of_lk rfl) <| .cons (.of_lk rfl) <| .nil) (.cons .here <| .cons .here <| .cons .here <| .nil)
    · replace h := bf e2 h
      obtain rfl := oi h
      exact run_brk () (.cons (.of_lk rfl) <| .cons (.of_lk rfl) <| .cons (.of_lk rfl) <| .cons (.of_lk rfl) <| .cons (.of_lk rfl) <| .nil) (.cons .here <| .cons .here <| .cons .here <| .nil)
  · rintro _
    show Run _ _ _ [(2, val (.pointer (some ⟨b1, 0, none⟩))), (4, val (.pointer (some ⟨b2, 0, none⟩))), (5, ptrTo (vec 64 u32) r1), (6, val (.pointer (some ⟨b4, 0, none⟩))), (16, i64.slot y3)] [box b4 127 R_hash_state y4, box b2 127 R_hash_state (Vector.replicate 8 (0#32)), box b1 127 R_hash_state p_s]
    refine run_to (Γ' := [(2, val (.pointer (some ⟨b1, 0, none⟩))), (4, val (.pointer (some ⟨b2, 0, none⟩))), (6, val (.pointer (some ⟨b4, 0, none⟩)))]) (H' := [box b4 127 R_hash_state y4, box b2 127 R_hash_state (Vector.replicate 8 (0#32)), box b1 127 R_hash_state p_s]) (.cons (.of_lk rfl) <| .cons (.of_lk rfl) <| .cons (.of_lk rfl) <| .nil) (.cons .here <| .cons .here <| .cons .here <| .nil) ?_
    refine rs ?_
    refine rs ?_
    refine rt ?_
    refine jp (pm has_i64) rfl rfl rfl ?_
    refine j_end ?_
    obtain ⟨⟨y7, y8⟩, e19, h⟩ := bind_some h
    refine run_loopS (Γi := fun (i : Unit) (s : Int × T_hash_state) => [(2, val (.pointer (some ⟨b1, 0, none⟩))), (4, val (.pointer (some ⟨b2, 0, none⟩))), (6, val (.pointer (some ⟨b4, 0, none⟩))), (102, i64.slot s.1)]) (Hi := fun (i : Unit) (s : Int × T_hash_state) => [box b4 127 R_hash_state y4, box b2 127 R_hash_state (Vector.replicate 8 (0#32)), box b1 127 R_hash_state s.2]) e19 () (fun a w hst => (hst.sub (.cons (.of_lk rfl) <| .cons (.of_lk rfl) <| .cons (.of_lk rfl) <| .cons (.of_lk rfl) <| .nil)).keep (.cons .here <| .cons .here <| .cons .here <| .nil)) ?_ ?_
    · clear h e19
      rintro _ ⟨y5, y6⟩ lr h
      change hash_state_block_L2 y4 y5 y6 = some _ at h
      show Run _ _ _ [(2, val (.pointer (some ⟨b1, 0, none⟩))), (4, val (.pointer (some ⟨b2, 0, none⟩))), (6, val (.pointer (some ⟨b4, 0, none⟩))), (102, i64.slot y5)] [box b4 127 R_hash_state y4, box b2 127 R_hash_state (Vector.replicate 8 (0#32)), box b1 127 R_hash_state y6]
      unfold hash_state_block_L2 at h
      refine rs ?_
      refine rt ?_
      refine jp (pj_ilss (ht rfl) has_i64) rfl rfl rfl ?_
      refine j_end ?_
      refine rs ?_
      refine run_cond (ht rfl) (fun e15 => ?_) (fun e15 => ?_)
      · replace h := bt e15 h
        refine run_skip ?_
        refine rs ?_
        refine run_block ?_
        refine rs ?_
        refine rt ?_
        refine jp (pm (ht rfl)) rfl rfl rfl ?_
        refine jp (pa (ht rfl)) rfl rfl rfl ?_
        refine j_end ?_
        obtain ⟨x6, e16, h⟩ := bind_some h
        obtain ⟨x7, e17, h⟩ := bind_some h
        refine run_draw (n := 6) (by kernel_rfl) (by kernel_rfl) (by kernel_rfl) (by kernel_rfl) (.read (.plain rfl (pm (ht rfl))) <| .read (.plain rfl (pj_index_arr (n := 8) (sz := 1) (ht rfl) (ht rfl) isInt_i64 (vget_some e16).1 (vget_lt e16) (by kernel_rfl))) <| .read (.plain rfl (PJ.eqv (pj_load_box (ht rfl) (.next (.next .here)) (Path.then (Path.all R_hash_state) (Path.atI 8 u32 y5.toNat (vget_some e16).2.1)) (by kernel_rfl)) (vget_eq e16 (vget_some e16).2.1))) <| .read (.plain rfl (pm (ht rfl))) <| .read (.plain rfl (pj_index_arr (n := 8) (sz := 1) (ht rfl) (ht rfl) isInt_i64 (vget_some e17).1 (vget_lt e17) (by kernel_rfl))) <| .read (.plain rfl (PJ.eqv (pj_load_box (ht rfl) .here (Path.then (Path.all R_hash_state) (Path.atI 8 u32 y5.toNat (vget_some e17).2.1)) (by kernel_rfl)) (vget_eq e17 (vget_some e17).2.1))) <| .nil) (j_to (Γ' := [(2, val (.pointer (some ⟨b1, 0, none⟩))), (4, val (.pointer (some ⟨b2, 0, none⟩))), (6, val (.pointer (some ⟨b4, 0, none⟩))), (102, i64.slot y5), (105, i64.slot y5), (107, u32.slot x6), (110, u32.slot x7)]) (H' := [box b4 127 R_hash_state y4, box b2 127 R_hash_state (Vector.replicate 8 (0#32)), box b1 127 R_hash_state y6]) (.cons (.of_lk rfl) <| .cons (.of_lk rfl) <| .cons (.of_lk rfl) <| .cons (.of_lk rfl) <| .cons (.of_lk rfl) <| .cons (.of_lk rfl) <| .cons (.of_lk rfl) <| .nil) (.cons .here <| .cons .here <| .cons .here <| .nil) ?_)
        refine jp (pj_uadd (k := .u32) (b := 32) rfl rfl (ht rfl) (ht rfl)) rfl rfl rfl ?_
        obtain ⟨e18, h⟩ := grd_some h
        refine jp (pj_index_arr (n := 8) (sz := 1) (ht rfl) (ht rfl) isInt_i64 e18.1 e18.2 (by kernel_rfl)) rfl rfl rfl ?_
        refine j_store_boxx (r' := (y6.setIfInBounds y5.toNat (x6 + x7))) (ht rfl) (ht rfl) (.next (.next .here)) (Path.then (Path.all R_hash_state) (Path.atI 8 u32 y5.toNat (lt_nat e18))) (by kernel_rfl) rfl ?_
        refine j_end ?_
        refine run_endblock ?_
        refine rt ?_
        refine jp (pj_iadd (ht rfl) has_i64) rfl rfl rfl ?_
        refine jp (pm (ht rfl)) rfl rfl rfl ?_
        refine j_end ?_
        obtain rfl := oi h
        exact run_next () (.cons (.of_lk rfl) <| .cons (.of_lk rfl) <| .cons (.of_lk rfl) <| .cons (.of_lk rfl) <| .nil) (.cons (.next .here) <| .cons (.next .here) <| .cons .here <| .nil)
      · replace h := bf e15 h
        obtain rfl := oi h
        exact run_brk () (.cons (.of_lk rfl) <| .cons (.of_lk rfl) <| .cons (.of_lk rfl) <| .cons (.of_lk rfl) <| .nil) (.cons .here <| .cons .here <| .cons .here <| .nil)
    · rintro _
      show Run _ _ _ [(2, val (.pointer (some ⟨b1, 0, none⟩))), (4, val (.pointer (some ⟨b2, 0, none⟩))), (6, val (.pointer (some ⟨b4, 0, none⟩))), (102, i64.slot y7)] [box b4 127 R_hash_state y4, box b2 127 R_hash_state (Vector.replicate 8 (0#32)), box b1 127 R_hash_state y8]
      refine run_to (Γ' := [(2, val (.pointer (some ⟨b1, 0, none⟩))), (4, val (.pointer (some ⟨b2, 0, none⟩)))]) (H' := [box b2 127 R_hash_state (Vector.replicate 8 (0#32)), box b1 127 R_hash_state y8]) (.cons (.of_lk rfl) <| .cons (.of_lk rfl) <| .nil) (.cons (.next .here) <| .cons (.next .here) <| .nil) ?_
      refine rs ?_
      refine rt ?_
      refine jp (pj_load_box (ht rfl) (.next .here) (Path.all R_hash_state) (by kernel_rfl)) rfl rfl rfl ?_
      refine j_store_boxx (r' := y8) (ht rfl) (ht rfl) .here (Path.all R_hash_state) (by kernel_rfl) rfl ?_
      refine j_end ?_
      obtain rfl := oi h
      exact run_ret fun a w hst => q_ret1 hst rfl (.cell rfl .here (by kernel_rfl)) () (fun _ _ h => h) (.nil)
set_option maxRecDepth 100000 in
set_option maxHeartbeats 4000000 in
theorem c_hash_Sum {G : GP} (hg0 : HG0 G) (hg1 : HG1 G) {p_b : List (BitVec 8)} {r : T_api_Hash} (h : hash_Sum p_b = some r) : Ctr Tryd.prog G 51 [(sl u8).slot p_b] [] (fun (_ : Unit) => R_api_Hash.slot r) (fun (_ : Unit) => []) := by
  unfold hash_Sum at h
  refine ctr_of_run Tryd.func51 rfl 71 rfl rfl fun m0 w0 b0 => ?_
  show Run _ _ _ [(0, (sl u8).slot p_b)] _
  refine rs ?_
  refine rt ?_
  refine j_alloc (x := (Vector.replicate 32 (0#8))) (R := R_api_Hash) (zero_vec 32 zero_un) (by kernel_rfl) rfl fun b1 => ?_
  refine j_end ?_
  refine rs ?_
  refine rt ?_
  refine jp (pj_load_gx (y := G_hash_begin) hg0 (by kernel_rfl)) rfl rfl rfl ?_
  refine j_alloc (x := (Vector.replicate 8 (0#32))) (R := R_hash_state) (zero_vec 8 zero_un) (by kernel_rfl) rfl fun b2 => ?_
  refine j_store_boxx (r' := G_hash_begin) (ht rfl) (ht rfl) .here (Path.all R_hash_state) (by kernel_rfl) rfl ?_
  refine j_end ?_
  refine rs ?_
  refine rt ?_
  refine jp (pm (ht rfl)) rfl rfl rfl ?_
  refine jp (pj_len_sl (sz := 1) (ht rfl) (by kernel_rfl)) rfl rfl rfl ?_
  refine jp (pj_conv_un (k := .u64) (b := 64) rfl rfl (by kernel_rfl) (ht rfl) isInt_i64) rfl rfl rfl ?_
  refine jp (pa (ht rfl)) rfl rfl rfl ?_
  refine j_end ?_
  refine rs ?_
  obtain ⟨⟨y3, y4⟩, e4, h⟩ := bind_some h
  refine run_loopS (Γi := fun (i : Unit) (s : (List (BitVec 8)) × T_hash_state) => [(0, (sl u8).slot s.1), (2, val (.pointer (some ⟨b1, 0, none⟩))), (3, val (.pointer (some ⟨b2, 0, none⟩))), (4, u64.slot (BitVec.ofInt 64 (p_b.length : Int)))]) (Hi := fun (i : Unit) (s : (List (BitVec 8)) × T_hash_state) => [box b2 127 R_hash_state s.2, box b1 23 R_api_Hash (Vector.replicate 32 (0#8))]) e4 () (fun a w hst => (hst.sub (.cons (.of_lk rfl) <| .cons (.of_lk rfl) <| .cons (.of_lk rfl) <| .cons (.of_lk rfl) <| .nil)).keep (.cons .here <| .cons .here <| .nil)) ?_ ?_
  · clear h e4
    rintro _ ⟨y1, y2⟩ lr h
    change hash_Sum_L1 y1 y2 = some _ at h
    show Run _ _ _ [(0, (sl u8).slot y1), (2, val (.pointer (some ⟨b1, 0, none⟩))), (3, val (.pointer (some ⟨b2, 0, none⟩))), (4, u64.slot (BitVec.ofInt 64 (p_b.length : Int)))] [box b2 127 R_hash_state y2, box b1 23 R_api_Hash (Vector.replicate 32 (0#8))]
    unfold hash_Sum_L1 at h
    refine rs ?_
    refine rs ?_
    refine rt ?_
    refine jp (pm (ht rfl)) rfl rfl rfl ?_
    refine jp (pj_len_sl (sz := 1) (ht rfl) (by kernel_rfl)) rfl rfl rfl ?_
    refine jp (pj_igeq (ht rfl) has_i64) rfl rfl rfl ?_
    refine j_end ?_
    refine run_cond (ht rfl) (fun e1 => ?_) (fun e1 => ?_)
    · replace h := bt e1 h
      refine run_skip ?_
      refine run_block ?_
      refine rs ?_
      refine rt ?_
      refine jp (pj_load_box (ht rfl) .here (Path.all R_hash_state) (by kernel_rfl)) rfl rfl rfl ?_
      refine jp (pm (ht rfl)) rfl rfl rfl ?_
      obtain ⟨r1, e2, h⟩ := bind_some h
      refine jp (pj_call (hc (ht rfl) <| hc (ht rfl) <| hasL_nil) (by kernel_rfl) (c_hash_state_block hg1 e2)) rfl rfl rfl ?_
      refine j_store_boxx (r' := r1) (ht rfl) (ht rfl) .here (Path.all R_hash_state) (by kernel_rfl) rfl ?_
      refine j_end ?_
      refine rt ?_
      refine jp (pm (ht rfl)) rfl rfl rfl ?_
      obtain ⟨x1, e3, h⟩ := bind_some h
      refine jp (pj_slice_slx (ht rfl) (.yes has_i64 isInt_i64) .no e3 (by kernel_rfl)) rfl rfl rfl ?_
      refine jp (pa (ht rfl)) rfl rfl rfl ?_
      refine j_end ?_
      refine run_endblock ?_
      obtain rfl := oi h
      exact run_next () (.cons (.of_lk rfl) <| .cons (.of_lk rfl) <| .cons (.of_lk rfl) <| .cons (.of_lk rfl) <| .nil) (.cons .here <| .cons .here <| .nil)
    · replace h := bf e1 h
      obtain rfl := oi h
      exact run_brk () (.cons (.of_lk rfl) <| .cons (.of_lk rfl) <| .cons (.of_lk rfl) <| .cons (.of_lk rfl) <| .nil) (.cons .here <| .cons .here <| .nil)
  · rintro _
    show Run _ _ _ [(0, (sl u8).slot y3), (2, val (.pointer (some ⟨b1, 0, none⟩))), (3, val (.pointer (some ⟨b2, 0, none⟩))), (4, u64.slot (BitVec.ofInt 64 (p_b.length : Int)))] [box b2 127 R_hash_state y4, box b1 23 R_api_Hash (Vector.replicate 32 (0#8))]
    refine run_to (Γ' := [(0, (sl u8).slot y3), (2, val (.pointer (some ⟨b1, 0, none⟩))), (3, val (.pointer (some ⟨b2, 0, none⟩))), (4, u64.slot (BitVec.ofInt 64 (p_b.length : Int)))]) (H' := [box b2 127 R_hash_state y4, box b1 23 R_api_Hash (Vector.replicate 32 (0#8))]) (.cons (.of_lk rfl) <| .cons (.of_lk rfl) <| .cons (.of_lk rfl) <| .cons (.of_lk rfl) <| .nil) (.cons .here <| .cons .here <| .nil) ?_
    refine rs ?_
    refine rt ?_
    refine j_alloc (x := (Vector.replicate 128 (0#8))) (R := (vec 128 u8)) (zero_vec 128 zero_un) (by kernel_rfl) rfl fun b3 => ?_
    refine j_end ?_
    refine rs ?_
    refine rt ?_
    refine jp (pa has_i64) rfl rfl rfl ?_
    refine j_end ?_
    refine rs ?_
    refine rs ?_
    refine rt ?_
    refine jp (pm (ht rfl)) rfl rfl rfl ?_
    refine jp (pj_len_sl (sz := 1) (ht rfl) (by kernel_rfl)) rfl rfl rfl ?_
    refine jp (pj_igeq (ht rfl) has_i64) rfl rfl rfl ?_
    refine j_end ?_
    obtain ⟨y5, e6, h⟩ := bind_some h
    refine run_joinx (ι := Unit) (Γ' := fun (_ : Unit) => [(0, (sl u8).slot y3), (2, val (.pointer (some ⟨b1, 0, none⟩))), (3, val (.pointer (some ⟨b2, 0, none⟩))), (4, u64.slot (BitVec.ofInt 64 (p_b.length : Int))), (5, val (.pointer (some ⟨b3, 0, none⟩))), (6, i64.slot y5)]) (H' := fun (_ : Unit) => [box b3 129 (vec 128 u8) (Vector.replicate 128 (0#8)), box b2 127 R_hash_state y4, box b1 23 R_api_Hash (Vector.replicate 32 (0#8))]) ?_ fun J => ?_
    · intro _
      clear e6
      show Run _ _ _ [(0, (sl u8).slot y3), (2, val (.pointer (some ⟨b1, 0, none⟩))), (3, val (.pointer (some ⟨b2, 0, none⟩))), (4, u64.slot (BitVec.ofInt 64 (p_b.length : Int))), (5, val (.pointer (some ⟨b3, 0, none⟩))), (6, i64.slot y5)] [box b3 129 (vec 128 u8) (Vector.replicate 128 (0#8)), box b2 127 R_hash_state y4, box b1 23 R_api_Hash (Vector.replicate 32 (0#8))]
      refine rs ?_
      refine rt ?_
      refine jp (pj_slice_arrc (lo := 0) (sz := 1) (n := 128) (ht rfl) .no .no 128 128 rfl (by kernel_rfl)) rfl rfl rfl ?_
      refine jp (pm (ht rfl)) rfl rfl rfl ?_
      refine j_copy_arr (lo := 0) (n := 128) (ht rfl) .here (src_data (ht rfl)) (by decide) (by kernel_rfl) rfl ?_
      refine j_end ?_
      refine rs ?_
      refine rt ?_
      refine jp (pm (ht rfl)) rfl rfl rfl ?_
      refine jp (pj_len_sl (sz := 1) (ht rfl) (by kernel_rfl)) rfl rfl rfl ?_
      obtain ⟨e7, h⟩ := grd_some h
      refine jp (pj_index_arr (n := 128) (sz := 1) (ht rfl) (ht rfl) isInt_i64 e7.1 e7.2 (by kernel_rfl)) rfl rfl rfl ?_
      obtain ⟨x2, e8, h⟩ := bind_some h
      refine j_store_boxx (r' := x2) (ht rfl) (has_un (x := 128#8) rfl) .here (Path.then (Path.all (vec 128 u8)) (Path.atI 128 u8 ((y3.length : Int).toNat) (lt_nat e7))) (by kernel_rfl) (oi e8) ?_
      refine j_end ?_
      refine rs ?_
      refine rs ?_
      refine rt ?_
      refine jp (pm has_i64) rfl rfl rfl ?_
      refine j_end ?_
      obtain ⟨⟨y8, y9⟩, e13, h⟩ := bind_some h
      refine run_loopS (Γi := fun (i : Unit) (s : Int × (Vector (BitVec 8) 128)) => [(2, val (.pointer (some ⟨b1, 0, none⟩))), (3, val (.pointer (some ⟨b2, 0, none⟩))), (4, u64.slot (BitVec.ofInt 64 (p_b.length : Int))), (5, val (.pointer (some ⟨b3, 0, none⟩))), (6, i64.slot y5), (31, i64.slot s.1)]) (Hi := fun (i : Unit) (s : Int × (Vector (BitVec 8) 128)) => [box b3 129 (vec 128 u8) s.2, box b2 127 R_hash_state y4, box b1 23 R_api_Hash (Vector.replicate 32 (0#8))]) e13 () (fun a w hst => (hst.sub (.cons (.of_lk rfl) <| .cons (.of_lk rfl) <| .cons (.of_lk rfl) <| .cons (.of_lk rfl) <| .cons (.of_lk rfl) <| .cons (.of_lk rfl) <| .nil)).keep (.cons .here <| .cons .here <| .cons .here <| .nil)) ?_ ?_
      · clear h e13
        rintro _ ⟨y6, y7⟩ lr h
        change hash_Sum_L2 y5 p_b y6 y7 = some _ at h
        show Run _ _ _ [(2, val (.pointer (some ⟨b1, 0, none⟩))), (3, val (.pointer (some ⟨b2, 0, none⟩))), (4, u64.slot (BitVec.ofInt 64 (p_b.length : Int))), (5, val (.pointer (some ⟨b3, 0, none⟩))), (6, i64.slot y5), (31, i64.slot y6)] [box b3 129 (vec 128 u8) y7, box b2 127 R_hash_state y4, box b1 23 R_api_Hash (Vector.replicate 32 (0#8))]
        unfold hash_Sum_L2 at h
        refine rs ?_
        refine rt ?_
        refine jp (pj_ilss (ht rfl) has_i64) rfl rfl rfl ?_
        refine j_end ?_
        refine rs ?_
        refine run_cond (ht rfl) (fun e9 => ?_) (fun e9 => ?_)
        · replace h := bt e9 h
          refine run_skip ?_
          refine rs ?_
          refine run_block ?_
          refine rs ?_
          refine rt ?_
          refine jp (pm (ht rfl)) rfl rfl rfl ?_
          refine jp (pa (ht rfl)) rfl rfl rfl ?_
          refine j_end ?_
          refine rt ?_
          refine jp (pm (ht rfl)) rfl rfl rfl ?_
          refine jp (pj_isub (ht rfl) has_i64) rfl rfl rfl ?_
          refine jp (pm (ht rfl)) rfl rfl rfl ?_
          refine jp (pj_isub (ht rfl) (ht rfl)) rfl rfl rfl ?_
          refine jp (pm (ht rfl)) rfl rfl rfl ?_
          refine jp (pj_ushl (k := .u64) (b := 64) rfl rfl (ht rfl) (has_un (x := 3#64) rfl) isInt_un (Int.natCast_nonneg _)) rfl rfl rfl ?_
          refine jp (pm (ht rfl)) rfl rfl rfl ?_
          refine jp (pj_imul has_i64 (ht rfl)) rfl rfl rfl ?_
          obtain ⟨e10, h⟩ := grd_some h
          refine jp (pj_ushr (k := .u64) (b := 64) rfl (ht rfl) (ht rfl) isInt_i64 e10) rfl rfl rfl ?_
          refine jp (pj_conv_uu (k := .u8) (b := 8) rfl rfl (by kernel_rfl) (ht rfl)) rfl rfl rfl ?_
          obtain ⟨e11, h⟩ := grd_some h
          refine jp (pj_index_arr (n := 128) (sz := 1) (ht rfl) (ht rfl) isInt_i64 e11.1 e11.2 (by kernel_rfl)) rfl rfl rfl ?_
          obtain ⟨x3, e12, h⟩ := bind_some h
          refine j_store_boxx (r' := x3) (ht rfl) (ht rfl) .here (Path.then (Path.all (vec 128 u8)) (Path.atI 128 u8 ((w64 ((w64 (y5 - (1 : Int))) - y6)).toNat) (lt_nat e11))) (by kernel_rfl) (oi e12) ?_
          refine j_end ?_
          refine run_endblock ?_
          refine rt ?_
          refine jp (pj_iadd (ht rfl) has_i64) rfl rfl rfl ?_
          refine jp (pm (ht rfl)) rfl rfl rfl ?_
          refine j_end ?_
          obtain rfl := oi h
          exact run_next () (.cons (.of_lk rfl) <| .cons (.of_lk rfl) <| .cons (.of_lk rfl) <| .cons (.of_lk rfl) <| .cons (.of_lk rfl) <| .cons (.of_lk rfl) <| .nil) (.cons .here <| .cons .here <| .cons .here <| .nil)
        · replace h := bf e9 h
          obtain rfl := oi h
          exact run_brk () (.cons (.of_lk rfl) <| .cons (.of_lk rfl) <| .cons (.of_lk rfl) <| .cons (.of_lk rfl) <| .cons (.of_lk rfl) <| .cons (.of_lk rfl) <| .nil) (.cons .here <| .cons .here <| .cons .here <| .nil)
      · rintro _
        show Run _ _ _ [(2, val (.pointer (some ⟨b1, 0, none⟩))), (3, val (.pointer (some ⟨b2, 0, none⟩))), (4, u64.slot (BitVec.ofInt 64 (p_b.length : Int))), (5, val (.pointer (some ⟨b3, 0, none⟩))), (6, i64.slot y5), (31, i64.slot y8)] [box b3 129 (vec 128 u8) y9, box b2 127 R_hash_state y4, box b1 23 R_api_Hash (Vector.replicate 32 (0#8))]
        refine run_to (Γ' := [(2, val (.pointer (some ⟨b1, 0, none⟩))), (3, val (.pointer (some ⟨b2, 0, none⟩))), (5, val (.pointer (some ⟨b3, 0, none⟩))), (6, i64.slot y5)]) (H' := [box b3 129 (vec 128 u8) y9, box b2 127 R_hash_state y4, box b1 23 R_api_Hash (Vector.replicate 32 (0#8))]) (.cons (.of_lk rfl) <| .cons (.of_lk rfl) <| .cons (.of_lk rfl) <| .cons (.of_lk rfl) <| .nil) (.cons .here <| .cons .here <| .cons .here <| .nil) ?_
        refine rs ?_
        refine run_draw (n := 2) (by kernel_rfl) (by kernel_rfl) (by kernel_rfl) (by kernel_rfl) (.read (.plain rfl (pj_load_box (ht rfl) (.next .here) (Path.all R_hash_state) (by kernel_rfl))) <| .read (.plain rfl (pj_slice_arrc (lo := 0) (sz := 1) (n := 128) (ht rfl) .no .no 128 128 rfl (by kernel_rfl))) <| .nil) (j_to (Γ' := [(2, val (.pointer (some ⟨b1, 0, none⟩))), (3, val (.pointer (some ⟨b2, 0, none⟩))), (5, val (.pointer (some ⟨b3, 0, none⟩))), (6, i64.slot y5), (46, R_hash_state.slot y4), (47, val (.slice (some ⟨b3, 0 * 1, none⟩) 128 128))]) (H' := [box b3 129 (vec 128 u8) y9, box b2 127 R_hash_state y4, box b1 23 R_api_Hash (Vector.replicate 32 (0#8))]) (.cons (.of_lk rfl) <| .cons (.of_lk rfl) <| .cons (.of_lk rfl) <| .cons (.of_lk rfl) <| .cons (.of_lk rfl) <| .cons (.of_lk rfl) <| .nil) (.cons .here <| .cons .here <| .cons .here <| .nil) ?_)
        obtain ⟨r2, e14, h⟩ := bind_some h
        refine jp (pj_callB (hasBL_cons (hasB_of (ht rfl)) <| hasBL_cons (hasB_arrF (ht rfl) .here (by decide)) <| hasBL_nil) (by kernel_rfl) (c_hash_state_block hg1 e14) (Rep.flat_slot (flat_vec _ (flat_un _ _)) _)) rfl rfl rfl ?_
        refine j_store_boxx (r' := r2) (ht rfl) (ht rfl) (.next .here) (Path.all R_hash_state) (by kernel_rfl) rfl ?_
        refine j_end ?_
        refine rs ?_
        refine rs ?_
        refine rt ?_
        refine jp (pm (ht rfl)) rfl rfl rfl ?_
        refine jp (pj_ieql (ht rfl) has_i64) rfl rfl rfl ?_
        refine j_end ?_
        obtain ⟨y10, e17, h⟩ := bind_some h
        refine run_joinx (ι := Unit) (Γ' := fun (_ : Unit) => [(2, val (.pointer (some ⟨b1, 0, none⟩))), (3, val (.pointer (some ⟨b2, 0, none⟩)))]) (H' := fun (_ : Unit) => [box b2 127 R_hash_state y10, box b1 23 R_api_Hash (Vector.replicate 32 (0#8))]) ?_ fun J => ?_
        · intro _
          clear e17
          show Run _ _ _ [(2, val (.pointer (some ⟨b1, 0, none⟩))), (3, val (.pointer (some ⟨b2, 0, none⟩)))] [box b2 127 R_hash_state y10, box b1 23 R_api_Hash (Vector.replicate 32 (0#8))]
          refine rs ?_
          refine rt ?_
          refine j_alloc (x := (Vector.replicate 32 (0#8))) (R := R_api_Hash) (zero_vec 32 zero_un) (by kernel_rfl) rfl fun b4 => ?_
          refine j_end ?_
          refine rs ?_
          refine rs ?_
          refine rt ?_
          refine jp (pm has_i64) rfl rfl rfl ?_
          refine j_end ?_
          obtain ⟨⟨y13, y14⟩, e23, h⟩ := bind_some h
          refine run_loopS (Γi := fun (i : Unit) (s : Int × T_api_Hash) => [(2, val (.pointer (some ⟨b1, 0, none⟩))), (3, val (.pointer (some ⟨b2, 0, none⟩))), (8, val (.pointer (some ⟨b4, 0, none⟩))), (54, i64.slot s.1)]) (Hi := fun (i : Unit) (s : Int × T_api_Hash) => [box b4 23 R_api_Hash s.2, box b2 127 R_hash_state y10, box b1 23 R_api_Hash (Vector.replicate 32 (0#8))]) e23 () (fun a w hst => (hst.sub (.cons (.of_lk rfl) <| .cons (.of_lk rfl) <| .cons (.of_lk rfl) <| .cons (.of_lk rfl) <| .nil)).keep (.cons .here <| .cons .here <| .cons .here <| .nil)) ?_ ?_
          · clear h e23
            rintro _ ⟨y11, y12⟩ lr h
            change hash_Sum_L3 y10 y11 y12 = some _ at h
            show Run _ _ _ [(2, val (.pointer (some ⟨b1, 0, none⟩))), (3, val (.pointer (some ⟨b2, 0, none⟩))), (8, val (.pointer (some ⟨b4, 0, none⟩))), (54, i64.slot y11)] [box b4 23 R_api_Hash y12, box b2 127 R_hash_state y10, box b1 23 R_api_Hash (Vector.replicate 32 (0#8))]
            unfold hash_Sum_L3 at h
            refine rs ?_
            refine rt ?_
            refine jp (pj_ilss (ht rfl) has_i64) rfl rfl rfl ?_
            refine j_end ?_
            refine rs ?_
            refine run_cond (ht rfl) (fun e18 => ?_) (fun e18 => ?_)
            · replace h := bt e18 h
              refine run_skip ?_
              refine rs ?_
              refine run_block ?_
              refine rs ?_
              refine rt ?_
              refine jp (pm (ht rfl)) rfl rfl rfl ?_
              refine jp (pa (ht rfl)) rfl rfl rfl ?_
              refine j_end ?_
              refine rt ?_
              refine jp (pm (ht rfl)) rfl rfl rfl ?_
              refine jp (pm (ht rfl)) rfl rfl rfl ?_
              refine jp (pj_iquo (ht rfl) has_i64 (by decide)) rfl rfl rfl ?_
              obtain ⟨x4, e19, h⟩ := bind_some h
              refine jp (pj_index_arr (n := 8) (sz := 1) (ht rfl) (ht rfl) isInt_i64 (vget_some e19).1 (vget_lt e19) (by kernel_rfl)) rfl rfl rfl ?_
              refine jp (PJ.eqv (pj_load_box (ht rfl) (.next .here) (Path.then (Path.all R_hash_state) (Path.atI 8 u32 ((w64 (Int.tdiv y11 (4 : Int))).toNat) (vget_some e19).2.1)) (by kernel_rfl)) (vget_eq e19 (vget_some e19).2.1)) rfl rfl rfl ?_
              refine jp (pm (ht rfl)) rfl rfl rfl ?_
              refine jp (pj_irem (ht rfl) has_i64 (by decide)) rfl rfl rfl ?_
              refine jp (pj_imul has_i64 (ht rfl)) rfl rfl rfl ?_
              refine jp (pj_isub has_i64 (ht rfl)) rfl rfl rfl ?_
              obtain ⟨e20, h⟩ := grd_some h
              refine jp (pj_ushr (k := .u32) (b := 32) rfl (ht rfl) (ht rfl) isInt_i64 e20) rfl rfl rfl ?_
              refine jp (pj_conv_uu (k := .u8) (b := 8) rfl rfl (by kernel_rfl) (ht rfl)) rfl rfl rfl ?_
              obtain ⟨e21, h⟩ := grd_some h
              refine jp (pj_index_arr (n := 32) (sz := 1) (ht rfl) (ht rfl) isInt_i64 e21.1 e21.2 (by kernel_rfl)) rfl rfl rfl ?_
              obtain ⟨x5, e22, h⟩ := bind_some h
              refine j_store_boxx (r' := x5) (ht rfl) (ht rfl) .here (Path.then (Path.all R_api_Hash) (Path.atI 32 u8 y11.toNat (lt_nat e21))) (by kernel_rfl) (oi e22) ?_
              refine j_end ?_
              refine run_endblock ?_
              refine rt ?_
              refine jp (pj_iadd (ht rfl) has_i64) rfl rfl rfl ?_
              refine jp (pm (ht rfl)) rfl rfl rfl ?_
              refine j_end ?_
              obtain rfl := oi h
              exact run_next () (.cons (.of_lk rfl) <| .cons (.of_lk rfl) <| .cons (.of_lk rfl) <| .cons (.of_lk rfl) <| .nil) (.cons .here <| .cons .here <| .cons .here <| .nil)
            · replace h := bf e18 h
              obtain rfl := oi h
              exact run_brk () (.cons (.of_lk rfl) <| .cons (.of_lk rfl) <| .cons (.of_lk rfl) <| .cons (.of_lk rfl) <| .nil) (.cons .here <| .cons .here <| .cons .here <| .nil)
          · rintro _
            show Run _ _ _ [(2, val (.pointer (some ⟨b1, 0, none⟩))), (3, val (.pointer (some ⟨b2, 0, none⟩))), (8, val (.pointer (some ⟨b4, 0, none⟩))), (54, i64.slot y13)] [box b4 23 R_api_Hash y14, box b2 127 R_hash_state y10, box b1 23 R_api_Hash (Vector.replicate 32 (0#8))]
            refine run_to (Γ' := [(2, val (.pointer (some ⟨b1, 0, none⟩))), (8, val (.pointer (some ⟨b4, 0, none⟩)))]) (H' := [box b4 23 R_api_Hash y14, box b1 23 R_api_Hash (Vector.replicate 32 (0#8))]) (.cons (.of_lk rfl) <| .cons (.of_lk rfl) <| .nil) (.cons .here <| .cons (.next .here) <| .nil) ?_
            refine rs ?_
            refine rt ?_
            refine jp (pj_load_box (ht rfl) .here (Path.all R_api_Hash) (by kernel_rfl)) rfl rfl rfl ?_
            refine j_store_boxx (r' := y14) (ht rfl) (ht rfl) (.next .here) (Path.all R_api_Hash) (by kernel_rfl) rfl ?_
            refine j_end ?_
            obtain rfl := oi h
            exact run_ret fun a w hst => q_ret1 hst rfl (.cell rfl .here (by kernel_rfl)) () (fun _ _ h => h) (.nil)
        · refine run_cond (ht rfl) (fun e15 => ?_) (fun e15 => ?_)
          · replace h := bt e15 e17
            refine run_draw (n := 2) (by kernel_rfl) (by kernel_rfl) (by kernel_rfl) (by kernel_rfl) (.read (.plain rfl (pj_load_box (ht rfl) .here (Path.all R_hash_state) (by kernel_rfl))) <| .read (.plain rfl (pj_slice_arrc (lo := 64) (sz := 1) (n := 128) (ht rfl) (.yes has_i64 isInt_i64) .no 64 64 rfl (by kernel_rfl))) <| .nil) (j_to (Γ' := [(2, val (.pointer (some ⟨b1, 0, none⟩))), (3, val (.pointer (some ⟨b2, 0, none⟩))), (51, R_hash_state.slot r2), (52, val (.slice (some ⟨b3, 64 * 1, none⟩) 64 64))]) (H' := [box b2 127 R_hash_state r2, box b3 129 (vec 128 u8) y9, box b1 23 R_api_Hash (Vector.replicate 32 (0#8))]) (.cons (.of_lk rfl) <| .cons (.of_lk rfl) <| .cons (.of_lk rfl) <| .cons (.of_lk rfl) <| .nil) (.cons .here <| .cons .here <| .cons .here <| .nil) ?_)
            obtain ⟨r3, e16, h⟩ := bind_some h
            refine jp (pj_callB (hasBL_cons (hasB_of (ht rfl)) <| hasBL_cons (hasB_arr (lo := 64) (ht rfl) (.next .here) (by decide) (by decide)) <| hasBL_nil) (by kernel_rfl) (c_hash_state_block hg1 e16) (Rep.flat_slot (flat_vec _ (flat_un _ _)) _)) rfl rfl rfl ?_
            refine j_store_boxx (r' := r3) (ht rfl) (ht rfl) .here (Path.all R_hash_state) (by kernel_rfl) rfl ?_
            refine j_end ?_
            obtain rfl := oi h
            exact run_to (.cons (.of_lk rfl) <| .cons (.of_lk rfl) <| .nil) (.cons .here <| .cons (.next .here) <| .nil) (J ())
          · replace h := bf e15 e17
            refine run_skip ?_
            obtain rfl := oi h
            exact run_to (.cons (.of_lk rfl) <| .cons (.of_lk rfl) <| .nil) (.cons .here <| .cons (.next .here) <| .nil) (J ())
    · refine run_cond (ht rfl) (fun e5 => ?_) (fun e5 => ?_)
      · replace h := bt e5 e6
        refine rt ?_
        refine jp (pa has_i64) rfl rfl rfl ?_
        refine j_end ?_
        obtain rfl := oi h
        exact run_to (.cons (.of_lk rfl) <| .cons (.of_lk rfl) <| .cons (.of_lk rfl) <| .cons (.of_lk rfl) <| .cons (.of_lk rfl) <| .cons (.of_lk rfl) <| .nil) (.cons .here <| .cons .here <| .cons .here <| .nil) (J ())
      · replace h := bf e5 e6
        refine run_skip ?_
        obtain rfl := oi h
        exact run_to (.cons (.of_lk rfl) <| .cons (.of_lk rfl) <| .cons (.of_lk rfl) <| .cons (.of_lk rfl) <| .cons (.of_lk rfl) <| .cons (.of_lk rfl) <| .nil) (.cons .here <| .cons .here <| .cons .here <| .nil) (J ())
set_option maxRecDepth 100000 in
set_option maxHeartbeats 4000000 in
theorem c_lmots_under {G : GP} (hg0 : HG0 G) (hg1 : HG1 G) {p_id : T_api_ID} {p_q : BitVec 32} {p_i : Int} {p_parts : List (List (BitVec 8))} {r : T_api_Hash} (h : lmots_under p_id p_q p_i p_parts = some r) : Ctr Tryd.prog G 105 [R_api_ID.slot p_id, u32.slot p_q, i64.slot p_i, (sl (sl u8)).slot p_parts] [] (fun (_ : Unit) => R_api_Hash.slot r) (fun (_ : Unit) => []) := by
  unfold lmots_under at h
  refine ctr_of_run Tryd.func105 rfl 47 rfl rfl fun m0 w0 b0 => ?_
  show Run _ _ _ [(0, R_api_ID.slot p_id), (1, u32.slot p_q), (2, i64.slot p_i), (3, (sl (sl u8)).slot p_parts)] _
  refine rs ?_
  refine rt ?_
  refine jp (pj_box_to (ht rfl)) rfl rfl rfl ?_
  refine j_alloc (x := (Vector.replicate 32 (0#8))) (R := R_api_Hash) (zero_vec 32 zero_un) (by kernel_rfl) rfl fun b1 => ?_
  refine j_end ?_
  refine rs ?_
  refine rt ?_
  obtain ⟨e1, h⟩ := grd_some h
  refine j_makeSlice (T := 5) (R := u8) (z := (0#8)) has_i64 has_i64 (by decide) e1.1 e1.2 (by kernel_rfl) zero_un (by kernel_rfl) rfl fun v1 => ?_
  refine jp (pa (ht rfl)) rfl rfl rfl ?_
  refine j_end ?_
  refine rs ?_
  refine rt ?_
  refine jp (pm (ht rfl)) rfl rfl rfl ?_
  refine jp (pj_slice_toF (ht rfl) (by decide) (by kernel_rfl)) rfl rfl rfl ?_
  obtain ⟨e2, h⟩ := grd_some h
  refine j_append (T := 5) (E := 5) (ht rfl) .here (src_data (ht rfl)) (by kernel_rfl) (by kernel_rfl) e2 rfl fun v2 => ?_
  refine jp (pa (ht rfl)) rfl rfl rfl ?_
  refine j_end ?_
  refine rs ?_
  refine rt ?_
  refine jp (pm (ht rfl)) rfl rfl rfl ?_
  refine jp (pm (ht rfl)) rfl rfl rfl ?_
  refine jp (pj_ushr (k := .u32) (b := 32) rfl (ht rfl) (has_un (x := 24#64) rfl) isInt_un (Int.natCast_nonneg _)) rfl rfl rfl ?_
  refine jp (pj_conv_uu (k := .u8) (b := 8) rfl rfl (by kernel_rfl) (ht rfl)) rfl rfl rfl ?_
  refine jp (pm (ht rfl)) rfl rfl rfl ?_
  refine jp (pj_ushr (k := .u32) (b := 32) rfl (ht rfl) (has_un (x := 16#64) rfl) isInt_un (Int.natCast_nonneg _)) rfl rfl rfl ?_
  refine jp (pj_conv_uu (k := .u8) (b := 8) rfl rfl (by kernel_rfl) (ht rfl)) rfl rfl rfl ?_
  refine jp (pm (ht rfl)) rfl rfl rfl ?_
  refine jp (pj_ushr (k := .u32) (b := 32) rfl (ht rfl) (has_un (x := 8#64) rfl) isInt_un (Int.natCast_nonneg _)) rfl rfl rfl ?_
  refine jp (pj_conv_uu (k := .u8) (b := 8) rfl rfl (by kernel_rfl) (ht rfl)) rfl rfl rfl ?_
  refine jp (pm (ht rfl)) rfl rfl rfl ?_
  refine jp (pj_conv_uu (k := .u8) (b := 8) rfl rfl (by kernel_rfl) (ht rfl)) rfl rfl rfl ?_
  refine jp (pm (ht rfl)) rfl rfl rfl ?_
  refine jp (pj_ishr (ht rfl) (has_un (x := 8#64) rfl) isInt_un (Int.natCast_nonneg _)) rfl rfl rfl ?_
  refine jp (pj_conv_un (k := .u8) (b := 8) rfl rfl (by kernel_rfl) (ht rfl) isInt_i64) rfl rfl rfl ?_
  refine jp (pm (ht rfl)) rfl rfl rfl ?_
  refine jp (pj_conv_un (k := .u8) (b := 8) rfl rfl (by kernel_rfl) (ht rfl) isInt_i64) rfl rfl rfl ?_
  refine jp (pj_buildSlice (T := 5) (R := u8) (.cons (ht rfl) (.cons (ht rfl) (.cons (ht rfl) (.cons (ht rfl) (.cons (ht rfl) (.cons (ht rfl) .nil)))))) rfl (by kernel_rfl) (by kernel_rfl)) rfl rfl rfl ?_
  obtain ⟨e3, h⟩ := grd_some h
  refine j_append (T := 5) (E := 5) (ht rfl) .here (src_data (ht rfl)) (by kernel_rfl) (by kernel_rfl) e3 rfl fun v3 => ?_
  refine jp (pa (ht rfl)) rfl rfl rfl ?_
  refine j_end ?_
  refine rs ?_
  refine rs ?_
  refine rt ?_
  refine jp (pm (ht rfl)) rfl rfl rfl ?_
  refine jp (pj_len_sl (sz := 1) (ht rfl) (by kernel_rfl)) rfl rfl rfl ?_
  refine jp (pm has_i64) rfl rfl rfl ?_
  refine j_end ?_
  obtain ⟨⟨y3, y4⟩, e7, h⟩ := bind_some h
  refine run_loopS (Γi := fun (i : Value) (s : Int × (List (BitVec 8))) => [(8, val (.pointer (some ⟨b1, 0, none⟩))), (9, ov i), (35, (sl (sl u8)).slot p_parts), (36, i64.slot (p_parts.length : Int)), (37, i64.slot s.1)]) (Hi := fun (i : Value) (s : Int × (List (BitVec 8))) => [own 5 u8 i s.2, box b1 23 R_api_Hash (Vector.replicate 32 (0#8))]) e7 v3 (fun a w hst => (hst.sub (.cons (.of_lk rfl) <| .cons (.of_lk rfl) <| .cons (.of_lk rfl) <| .cons (.of_lk rfl) <| .cons (.of_lk rfl) <| .nil)).keep (.cons .here <| .cons .here <| .nil)) ?_ ?_
  · clear h e7
    rintro v4 ⟨y1, y2⟩ lr h
    change lmots_under_L1 p_parts y1 y2 = some _ at h
    show Run _ _ _ [(8, val (.pointer (some ⟨b1, 0, none⟩))), (9, ov v4), (35, (sl (sl u8)).slot p_parts), (36, i64.slot (p_parts.length : Int)), (37, i64.slot y1)] [own 5 u8 v4 y2, box b1 23 R_api_Hash (Vector.replicate 32 (0#8))]
    unfold lmots_under_L1 at h
    refine rs ?_
    refine rt ?_
    refine jp (pj_ilss (ht rfl) (ht rfl)) rfl rfl rfl ?_
    refine j_end ?_
    refine rs ?_
    refine run_cond (ht rfl) (fun e4 => ?_) (fun e4 => ?_)
    · replace h := bt e4 h
      refine run_skip ?_
      refine rs ?_
      refine run_block ?_
      refine rs ?_
      refine rt ?_
      obtain ⟨x1, e5, h⟩ := bind_some h
      refine jp (pj_index_slx (ht rfl) (ht rfl) isInt_i64 e5 (by kernel_rfl)) rfl rfl rfl ?_
      refine jp (pl (ht rfl) (by kernel_rfl)) rfl rfl rfl ?_
      refine jp (pa (ht rfl)) rfl rfl rfl ?_
      refine j_end ?_
      refine rt ?_
      refine jp (pm (ht rfl)) rfl rfl rfl ?_
      refine jp (pm (ht rfl)) rfl rfl rfl ?_
      obtain ⟨e6, h⟩ := grd_some h
      refine j_append (T := 5) (E := 5) (ht rfl) .here (src_data (ht rfl)) (by kernel_rfl) (by kernel_rfl) e6 rfl fun v5 => ?_
      refine jp (pa (ht rfl)) rfl rfl rfl ?_
      refine j_end ?_
      refine run_endblock ?_
      refine rt ?_
      refine jp (pj_iadd (ht rfl) has_i64) rfl rfl rfl ?_
      refine jp (pm (ht rfl)) rfl rfl rfl ?_
      refine j_end ?_
      obtain rfl := oi h
      exact run_next v5 (.cons (.of_lk rfl) <| .cons (.of_lk rfl) <| .cons (.of_lk rfl) <| .cons (.of_lk rfl) <| .cons (.of_lk rfl) <| .nil) (.cons .here <| .cons .here <| .nil)
    · replace h := bf e4 h
      obtain rfl := oi h
      exact run_brk v4 (.cons (.of_lk rfl) <| .cons (.of_lk rfl) <| .cons (.of_lk rfl) <| .cons (.of_lk rfl) <| .cons (.of_lk rfl) <| .nil) (.cons .here <| .cons .here <| .nil)
  · rintro v6
    show Run _ _ _ [(8, val (.pointer (some ⟨b1, 0, none⟩))), (9, ov v6), (35, (sl (sl u8)).slot p_parts), (36, i64.slot (p_parts.length : Int)), (37, i64.slot y3)] [own 5 u8 v6 y4, box b1 23 R_api_Hash (Vector.replicate 32 (0#8))]
    refine run_to (Γ' := [(8, val (.pointer (some ⟨b1, 0, none⟩))), (9, ov v6)]) (H' := [own 5 u8 v6 y4, box b1 23 R_api_Hash (Vector.replicate 32 (0#8))]) (.cons (.of_lk rfl) <| .cons (.of_lk rfl) <| .nil) (.cons .here <| .cons .here <| .nil) ?_
    refine rs ?_
    refine rt ?_
    refine jp (pm (ht rfl)) rfl rfl rfl ?_
    obtain ⟨r1, e8, h⟩ := bind_some h
    refine jp (pj_callB (hasBL_cons (hasB_own (ht rfl) .here) <| hasBL_nil) (by kernel_rfl) (c_hash_Sum hg0 hg1 e8) (Rep.flat_slot (flat_vec _ (flat_un _ _)) _)) rfl rfl rfl ?_
    refine j_store_boxx (r' := r1) (ht rfl) (ht rfl) (.next .here) (Path.all R_api_Hash) (by kernel_rfl) rfl ?_
    refine j_end ?_
    obtain rfl := oi h
    exact run_ret fun a w hst => q_ret1 hst rfl (.cell rfl .here (by kernel_rfl)) () (fun _ _ h => h) (.nil)
set_option maxRecDepth 100000 in
set_option maxHeartbeats 4000000 in
theorem c_lmots_chain {G : GP} (hg0 : HG0 G) (hg1 : HG1 G) {p_id : T_api_ID} {p_q : BitVec 32} {p_i : Int} {p_h : T_api_Hash} {p_from : Int} {p_to : Int} {r : T_api_Hash} (h : lmots_chain p_id p_q p_i p_h p_from p_to = some r) : Ctr Tryd.prog G 106 [R_api_ID.slot p_id, u32.slot p_q, i64.slot p_i, R_api_Hash.slot p_h, i64.slot p_from, i64.slot p_to] [] (fun (_ : Unit) => R_api_Hash.slot r) (fun (_ : Unit) => []) := by
  unfold lmots_chain at h
  refine ctr_of_run Tryd.func106 rfl 30 rfl rfl fun m0 w0 b0 => ?_
  show Run _ _ _ [(0, R_api_ID.slot p_id), (1, u32.slot p_q), (2, i64.slot p_i), (3, R_api_Hash.slot p_h), (4, i64.slot p_from), (5, i64.slot p_to)] _
  refine rs ?_
  refine rt ?_
  refine jp (pj_box_to (ht rfl)) rfl rfl rfl ?_
  refine j_box (ht rfl) rfl fun b1 => ?_
  refine j_alloc (x := (Vector.replicate 32 (0#8))) (R := R_api_Hash) (zero_vec 32 zero_un) (by kernel_rfl) rfl fun b2 => ?_
  refine j_end ?_
  refine rs ?_
  refine rs ?_
  refine rt ?_
  refine jp (pm (ht rfl)) rfl rfl rfl ?_
  refine jp (pa (ht rfl)) rfl rfl rfl ?_
  refine j_end ?_
  obtain ⟨⟨y3, y4⟩, e3, h⟩ := bind_some h
  refine run_loopS (Γi := fun (i : Unit) (s : Int × T_api_Hash) => [(1, u32.slot p_q), (2, i64.slot p_i), (5, i64.slot p_to), (6, ptrTo R_api_ID p_id), (9, val (.pointer (some ⟨b1, 0, none⟩))), (12, val (.pointer (some ⟨b2, 0, none⟩))), (13, i64.slot s.1)]) (Hi := fun (i : Unit) (s : Int × T_api_Hash) => [box b2 23 R_api_Hash (Vector.replicate 32 (0#8)), box b1 23 R_api_Hash s.2]) e3 () (fun a w hst => (hst.sub (.cons (.of_lk rfl) <| .cons (.of_lk rfl) <| .cons (.of_lk rfl) <| .cons (.of_lk rfl) <| .cons (.of_lk rfl) <| .cons (.of_lk rfl) <| .cons (.of_lk rfl) <| .nil)).keep (.cons .here <| .cons .here <| .nil)) ?_ ?_
  · clear h e3
    rintro _ ⟨y1, y2⟩ lr h
    change lmots_chain_L1 p_to p_id p_q p_i y1 y2 = some _ at h
    show Run _ _ _ [(1, u32.slot p_q), (2, i64.slot p_i), (5, i64.slot p_to), (6, ptrTo R_api_ID p_id), (9, val (.pointer (some ⟨b1, 0, none⟩))), (12, val (.pointer (some ⟨b2, 0, none⟩))), (13, i64.slot y1)] [box b2 23 R_api_Hash (Vector.replicate 32 (0#8)), box b1 23 R_api_Hash y2]
    unfold lmots_chain_L1 at h
    refine rs ?_
    refine rs ?_
    refine rt ?_
    refine jp (pm (ht rfl)) rfl rfl rfl ?_
    refine jp (pm (ht rfl)) rfl rfl rfl ?_
    refine jp (pj_ilss (ht rfl) (ht rfl)) rfl rfl rfl ?_
    refine j_end ?_
    refine run_cond (ht rfl) (fun e1 => ?_) (fun e1 => ?_)
    · replace h := bt e1 h
      refine run_skip ?_
      refine rs ?_
      refine run_block ?_
      refine run_draw (n := 8) (by kernel_rfl) (by kernel_rfl) (by kernel_rfl) (by kernel_rfl) (.read (.plain rfl (pl (ht rfl) (by kernel_rfl))) <| .read (.plain rfl (pm (ht rfl))) <| .read (.plain rfl (pm (ht rfl))) <| .read (.plain rfl (pm (ht rfl))) <| .read (.plain rfl (pj_conv_un (k := .u8) (b := 8) rfl rfl (by kernel_rfl) (ht rfl) isInt_i64)) <| .read (.plain rfl (pj_buildSlice (T := 5) (R := u8) (.cons (ht rfl) .nil) rfl (by kernel_rfl) (by kernel_rfl))) <| .read (.plain rfl (pj_slice_arrc (lo := 0) (sz := 1) (n := 32) (ht rfl) .no .no 32 32 rfl (by kernel_rfl))) <| .read (.plain rfl (pj_buildSlice_lnt (T := 26) (E := [box b1 23 R_api_Hash y2]) (R := (sl u8)) (.cons (has_lnt (ht rfl)) (.cons (has_lnt_arrF (ht rfl) .here (by decide)) .nil)) (.cons (.next .here) <| .nil) rfl rfl (by kernel_rfl) (by kernel_rfl))) <| .nil) (j_to (Γ' := [(1, u32.slot p_q), (2, i64.slot p_i), (5, i64.slot p_to), (6, ptrTo R_api_ID p_id), (9, val (.pointer (some ⟨b1, 0, none⟩))), (12, val (.pointer (some ⟨b2, 0, none⟩))), (13, i64.slot y1), (20, R_api_ID.slot p_id), (21, u32.slot p_q), (22, i64.slot p_i), (27, lnt [box b1 23 R_api_Hash y2] ((sl (sl u8)).slot ([[BitVec.ofInt 8 y1], y2.toList])))]) (H' := [box b2 23 R_api_Hash (Vector.replicate 32 (0#8)), box b1 23 R_api_Hash y2]) (.cons (.of_lk rfl) <| .cons (.of_lk rfl) <| .cons (.of_lk rfl) <| .cons (.of_lk rfl) <| .cons (.of_lk rfl) <| .cons (.of_lk rfl) <| .cons (.of_lk rfl) <| .cons (.of_lk rfl) <| .cons (.of_lk rfl) <| .cons (.of_lk rfl) <| .cons (.of_lk rfl) <| .nil) (.cons .here <| .cons .here <| .nil) ?_)
      obtain ⟨r1, e2, h⟩ := bind_some h
      refine jp (pj_callB (hasBL_cons (hasB_of (ht rfl)) <| hasBL_cons (hasB_of (ht rfl)) <| hasBL_cons (hasB_of (ht rfl)) <| hasBL_cons (hasB_lnt (ht rfl) (.cons (.next .here) <| .nil)) <| hasBL_nil) (by kernel_rfl) (c_lmots_under hg0 hg1 e2) (Rep.flat_slot (flat_vec _ (flat_un _ _)) _)) rfl rfl rfl ?_
      refine j_store_boxx (r' := r1) (ht rfl) (ht rfl) (.next .here) (Path.all R_api_Hash) (by kernel_rfl) rfl ?_
      refine j_end ?_
      refine run_endblock ?_
      refine rt ?_
      refine jp (pm (ht rfl)) rfl rfl rfl ?_
      refine jp (pj_iadd (ht rfl) has_i64) rfl rfl rfl ?_
      refine jp (pa (ht rfl)) rfl rfl rfl ?_
      refine j_end ?_
      obtain rfl := oi h
      exact run_next () (.cons (.of_lk rfl) <| .cons (.of_lk rfl) <| .cons (.of_lk rfl) <| .cons (.of_lk rfl) <| .cons (.of_lk rfl) <| .cons (.of_lk rfl) <| .cons (.of_lk rfl) <| .nil) (.cons (.next .here) <| .cons .here <| .nil)
    · replace h := bf e1 h
      obtain rfl := oi h
      exact run_brk () (.cons (.of_lk rfl) <| .cons (.of_lk rfl) <| .cons (.of_lk rfl) <| .cons (.of_lk rfl) <| .cons (.of_lk rfl) <| .cons (.of_lk rfl) <| .cons (.of_lk rfl) <| .nil) (.cons .here <| .cons .here <| .nil)
  · rintro _
    show Run _ _ _ [(1, u32.slot p_q), (2, i64.slot p_i), (5, i64.slot p_to), (6, ptrTo R_api_ID p_id), (9, val (.pointer (some ⟨b1, 0, none⟩))), (12, val (.pointer (some ⟨b2, 0, none⟩))), (13, i64.slot y3)] [box b2 23 R_api_Hash (Vector.replicate 32 (0#8)), box b1 23 R_api_Hash y4]
    refine run_to (Γ' := [(9, val (.pointer (some ⟨b1, 0, none⟩))), (12, val (.pointer (some ⟨b2, 0, none⟩)))]) (H' := [box b2 23 R_api_Hash (Vector.replicate 32 (0#8)), box b1 23 R_api_Hash y4]) (.cons (.of_lk rfl) <| .cons (.of_lk rfl) <| .nil) (.cons .here <| .cons .here <| .nil) ?_
    refine rs ?_
    refine rt ?_
    refine jp (pj_load_box (ht rfl) (.next .here) (Path.all R_api_Hash) (by kernel_rfl)) rfl rfl rfl ?_
    refine j_store_boxx (r' := y4) (ht rfl) (ht rfl) .here (Path.all R_api_Hash) (by kernel_rfl) rfl ?_
    refine j_end ?_
    obtain rfl := oi h
    exact run_ret fun a w hst => q_ret1 hst rfl (.cell rfl .here (by kernel_rfl)) () (fun _ _ h => h) (.nil)
set_option maxRecDepth 100000 in
set_option maxHeartbeats 4000000 in
theorem c_lmots_folded {G : GP} (hg0 : HG0 G) (hg1 : HG1 G) {p_id : T_api_ID} {p_q : BitVec 32} {p_ends : List T_api_Hash} {r : T_api_Hash} (h : lmots_folded p_id p_q p_ends = some r) : Ctr Tryd.prog G 108 [R_api_ID.slot p_id, u32.slot p_q, (sl R_api_Hash).slot p_ends] [] (fun (_ : Unit) => R_api_Hash.slot r) (fun (_ : Unit) => []) := by
  unfold lmots_folded at h
  refine ctr_of_run Tryd.func108 rfl 29 rfl rfl fun m0 w0 b0 => ?_
  show Run _ _ _ [(0, R_api_ID.slot p_id), (1, u32.slot p_q), (2, (sl R_api_Hash).slot p_ends)] _
  refine rs ?_
  refine rt ?_
  refine jp (pj_box_to (ht rfl)) rfl rfl rfl ?_
  refine j_alloc (x := (Vector.replicate 32 (0#8))) (R := R_api_Hash) (zero_vec 32 zero_un) (by kernel_rfl) rfl fun b1 => ?_
  refine j_end ?_
  refine rs ?_
  refine rt ?_
  refine jp (pm (ht rfl)) rfl rfl rfl ?_
  refine jp (pj_len_sl (sz := 32) (ht rfl) (by kernel_rfl)) rfl rfl rfl ?_
  refine jp (pj_imul has_i64 (ht rfl)) rfl rfl rfl ?_
  obtain ⟨e1, h⟩ := grd_some h
  refine j_makeSlice (T := 5) (R := u8) (z := (0#8)) has_i64 (ht rfl) (by decide) e1.1 e1.2 (by kernel_rfl) zero_un (by kernel_rfl) rfl fun v1 => ?_
  refine jp (pa (ht rfl)) rfl rfl rfl ?_
  refine j_end ?_
  refine rs ?_
  refine rs ?_
  refine rt ?_
  refine jp (pm (ht rfl)) rfl rfl rfl ?_
  refine jp (pj_len_sl (sz := 32) (ht rfl) (by kernel_rfl)) rfl rfl rfl ?_
  refine jp (pm has_i64) rfl rfl rfl ?_
  refine j_end ?_
  obtain ⟨⟨y3, y4⟩, e5, h⟩ := bind_some h
  refine run_loopS (Γi := fun (i : Value) (s : Int × (List (BitVec 8))) => [(1, u32.slot p_q), (3, ptrTo R_api_ID p_id), (6, val (.pointer (some ⟨b1, 0, none⟩))), (7, ov i), (14, (sl R_api_Hash).slot p_ends), (15, i64.slot (p_ends.length : Int)), (16, i64.slot s.1)]) (Hi := fun (i : Value) (s : Int × (List (BitVec 8))) => [own 5 u8 i s.2, box b1 23 R_api_Hash (Vector.replicate 32 (0#8))]) e5 v1 (fun a w hst => (hst.sub (.cons (.of_lk rfl) <| .cons (.of_lk rfl) <| .cons (.of_lk rfl) <| .cons (.of_lk rfl) <| .cons (.of_lk rfl) <| .cons (.of_lk rfl) <| .cons (.of_lk rfl) <| .nil)).keep (.cons .here <| .cons .here <| .nil)) ?_ ?_
  · clear h e5
    rintro v2 ⟨y1, y2⟩ lr h
    change lmots_folded_L1 p_ends y1 y2 = some _ at h
    show Run _ _ _ [(1, u32.slot p_q), (3, ptrTo R_api_ID p_id), (6, val (.pointer (some ⟨b1, 0, none⟩))), (7, ov v2), (14, (sl R_api_Hash).slot p_ends), (15, i64.slot (p_ends.length : Int)), (16, i64.slot y1)] [own 5 u8 v2 y2, box b1 23 R_api_Hash (Vector.replicate 32 (0#8))]
    unfold lmots_folded_L1 at h
    refine rs ?_
    refine rt ?_
    refine jp (pj_ilss (ht rfl) (ht rfl)) rfl rfl rfl ?_
    refine j_end ?_
    refine rs ?_
    refine run_cond (ht rfl) (fun e2 => ?_) (fun e2 => ?_)
    · replace h := bt e2 h
      refine run_skip ?_
      refine rs ?_
      refine run_block ?_
      refine rs ?_
      refine rt ?_
      obtain ⟨x1, e3, h⟩ := bind_some h
      refine jp (pj_index_slx (ht rfl) (ht rfl) isInt_i64 e3 (by kernel_rfl)) rfl rfl rfl ?_
      refine jp (pl (ht rfl) (by kernel_rfl)) rfl rfl rfl ?_
      refine j_alloc (x := (Vector.replicate 32 (0#8))) (R := R_api_Hash) (zero_vec 32 zero_un) (by kernel_rfl) rfl fun b2 => ?_
      refine j_store_boxx (r' := x1) (ht rfl) (ht rfl) .here (Path.all R_api_Hash) (by kernel_rfl) rfl ?_
      refine j_freezeTo (t := 9) .here (.of_lk rfl) ?_
      refine j_end ?_
      refine rt ?_
      refine jp (pm (ht rfl)) rfl rfl rfl ?_
      refine jp (pj_slice_toF (ht rfl) (by decide) (by kernel_rfl)) rfl rfl rfl ?_
      obtain ⟨e4, h⟩ := grd_some h
      refine j_append (T := 5) (E := 5) (ht rfl) .here (src_data (ht rfl)) (by kernel_rfl) (by kernel_rfl) e4 rfl fun v3 => ?_
      refine jp (pa (ht rfl)) rfl rfl rfl ?_
      refine j_end ?_
      refine run_endblock ?_
      refine rt ?_
      refine jp (pj_iadd (ht rfl) has_i64) rfl rfl rfl ?_
      refine jp (pm (ht rfl)) rfl rfl rfl ?_
      refine j_end ?_
      obtain rfl := oi h
      exact run_next v3 (.cons (.of_lk rfl) <| .cons (.of_lk rfl) <| .cons (.of_lk rfl) <| .cons (.of_lk rfl) <| .cons (.of_lk rfl) <| .cons (.of_lk rfl) <| .cons (.of_lk rfl) <| .nil) (.cons .here <| .cons .here <| .nil)
    · replace h := bf e2 h
      obtain rfl := oi h
      exact run_brk v2 (.cons (.of_lk rfl) <| .cons (.of_lk rfl) <| .cons (.of_lk rfl) <| .cons (.of_lk rfl) <| .cons (.of_lk rfl) <| .cons (.of_lk rfl) <| .cons (.of_lk rfl) <| .nil) (.cons .here <| .cons .here <| .nil)
  · rintro v4
    show Run _ _ _ [(1, u32.slot p_q), (3, ptrTo R_api_ID p_id), (6, val (.pointer (some ⟨b1, 0, none⟩))), (7, ov v4), (14, (sl R_api_Hash).slot p_ends), (15, i64.slot (p_ends.length : Int)), (16, i64.slot y3)] [own 5 u8 v4 y4, box b1 23 R_api_Hash (Vector.replicate 32 (0#8))]
    refine run_to (Γ' := [(1, u32.slot p_q), (3, ptrTo R_api_ID p_id), (6, val (.pointer (some ⟨b1, 0, none⟩))), (7, ov v4)]) (H' := [own 5 u8 v4 y4, box b1 23 R_api_Hash (Vector.replicate 32 (0#8))]) (.cons (.of_lk rfl) <| .cons (.of_lk rfl) <| .cons (.of_lk rfl) <| .cons (.of_lk rfl) <| .nil) (.cons .here <| .cons .here <| .nil) ?_
    refine rs ?_
    refine rt ?_
    refine jp (pl (ht rfl) (by kernel_rfl)) rfl rfl rfl ?_
    refine jp (pm (ht rfl)) rfl rfl rfl ?_
    refine jp (pm (ht rfl)) rfl rfl rfl ?_
    refine j_freeze [7, 26] .here (frz_cons (.of_lk rfl) <| frz_cons (.of_lk rfl) <| frz_nil) ?_
    refine jp (pj_buildSlice (T := 26) (R := (sl u8)) (.cons (ht rfl) .nil) rfl (by kernel_rfl) (by kernel_rfl)) rfl rfl rfl ?_
    obtain ⟨r1, e6, h⟩ := bind_some h
    refine jp (pj_call (hc (ht rfl) <| hc (ht rfl) <| hc has_i64 <| hc (ht rfl) <| hasL_nil) (by kernel_rfl) (c_lmots_under hg0 hg1 e6)) rfl rfl rfl ?_
    refine j_store_boxx (r' := r1) (ht rfl) (ht rfl) .here (Path.all R_api_Hash) (by kernel_rfl) rfl ?_
    refine j_end ?_
    obtain rfl := oi h
    exact run_ret fun a w hst => q_ret1 hst rfl (.cell rfl .here (by kernel_rfl)) () (fun _ _ h => h) (.nil)
set_option maxRecDepth 100000 in
set_option maxHeartbeats 4000000 in
theorem c_lmots_Recover {G : GP} (hg0 : HG0 G) (hg1 : HG1 G) (hg2 : HG2 G) {p_id : T_api_ID} {p_q : BitVec 32} {p_message : List (BitVec 8)} {p_signature : List (BitVec 8)} {r : T_api_Hash × Bool} (h : lmots_Recover p_id p_q p_message p_signature = some r) : Ctr Tryd.prog G 78 [R_api_ID.slot p_id, u32.slot p_q, (sl u8).slot p_message, (sl u8).slot p_signature] [] (fun (_ : Unit) => tup [R_api_Hash.slot r.1, bl.slot r.2]) (fun (_ : Unit) => []) := by
  unfold lmots_Recover at h
  refine ctr_of_run Tryd.func78 rfl 77 rfl rfl fun m0 w0 b0 => ?_
  show Run _ _ _ [(0, R_api_ID.slot p_id), (1, u32.slot p_q), (2, (sl u8).slot p_message), (3, (sl u8).slot p_signature)] _
  refine rs ?_
  refine rt ?_
  refine jp (pj_box_to (ht rfl)) rfl rfl rfl ?_
  refine j_alloc (x := (Vector.replicate 32 (0#8))) (R := R_api_Hash) (zero_vec 32 zero_un) (by kernel_rfl) rfl fun b1 => ?_
  refine jp (pa has_bl) rfl rfl rfl ?_
  refine j_end ?_
  refine rs ?_
  refine rt ?_
  refine jp (pm (ht rfl)) rfl rfl rfl ?_
  obtain ⟨r1, e1, h⟩ := bind_some h
  refine j_call (hc (ht rfl) <| hasL_nil) (by kernel_rfl) (c_wire_New e1) .nil rfl fun b2 => ?_
  refine jp (pa (ht rfl)) rfl rfl rfl ?_
  refine j_end ?_
  refine rs ?_
  refine rt ?_
  refine jp (pm (ht rfl)) rfl rfl rfl ?_
  obtain ⟨r2, e2, h⟩ := bind_some h
  refine j_call (hc (ht rfl) <| hasL_nil) (by kernel_rfl) (c_wire_Reader_U32 e2) (.cons .here <| .nil) rfl fun _ => ?_
  refine jp (pa (ht rfl)) rfl rfl rfl ?_
  refine j_end ?_
  refine rs ?_
  refine rt ?_
  refine jp (pm (ht rfl)) rfl rfl rfl ?_
  refine jp (pj_conv_ui (by decide) (by kernel_rfl) (ht rfl)) rfl rfl rfl ?_
  obtain ⟨r3, e3, h⟩ := bind_some h
  refine jp (pj_call (hc (ht rfl) <| hasL_nil) (by kernel_rfl) (c_lmots_of hg2 e3)) rfl rfl rfl ?_
  refine jp (pm (ht rfl)) rfl rfl rfl ?_
  refine jp (pj_extract (ht rfl) rfl) rfl rfl rfl ?_
  refine jp (pj_extract (ht rfl) rfl) rfl rfl rfl ?_
  refine j_alloc (x := (0, 0, 0)) (R := R_lmots_form) (zero_prod zero_i64 (zero_prod zero_i64 zero_i64)) (by kernel_rfl) rfl fun b3 => ?_
  refine j_store_boxx (r' := r3.1) (ht rfl) (ht rfl) .here (Path.all R_lmots_form) (by kernel_rfl) rfl ?_
  refine j_freezeTo (t := 12) .here (.of_lk rfl) ?_
  refine jp (pa (ht rfl)) rfl rfl rfl ?_
  refine j_end ?_
  refine rs ?_
  refine rs ?_
  refine rt ?_
  refine jp (pm (ht rfl)) rfl rfl rfl ?_
  refine jp (pj_not (ht rfl)) rfl rfl rfl ?_
  refine jp (pm (ht rfl)) rfl rfl rfl ?_
  obtain ⟨y1, e5, h⟩ := bind_some h
  refine j_joinx (ι := Unit) (Γ' := fun _ => [(1, u32.slot p_q), (2, (sl u8).slot p_message), (4, ptrTo R_api_ID p_id), (8, val (.pointer (some ⟨b1, 0, none⟩))), (10, val (.pointer (some ⟨b2, 0, none⟩))), (12, ptrTo R_lmots_form r3.1), (37, bl.slot y1)]) (H' := fun _ => [box b2 98 (prod (sl u8) bl) (r2.1.1, r2.1.2), box b1 23 R_api_Hash (Vector.replicate 32 (0#8))]) 7 ?_ fun J => ?_
  · intro _
    clear e5
    show OpsJ _ _ _ [(1, u32.slot p_q), (2, (sl u8).slot p_message), (4, ptrTo R_api_ID p_id), (8, val (.pointer (some ⟨b1, 0, none⟩))), (10, val (.pointer (some ⟨b2, 0, none⟩))), (12, ptrTo R_lmots_form r3.1), (37, bl.slot y1)] [box b2 98 (prod (sl u8) bl) (r2.1.1, r2.1.2), box b1 23 R_api_Hash (Vector.replicate 32 (0#8))] _
    refine j_end ?_
    refine run_cond (ht rfl) (fun e7 => ?_) (fun e7 => ?_)
    · replace h := bt e7 h
      refine rs ?_
      refine rt ?_
      refine jp (pj_build (R := R_api_Hash) (zero_vec 32 zero_un) (by kernel_rfl) (by kernel_rfl) rfl .nil) rfl rfl rfl ?_
      refine j_store_boxx (r' := (Vector.replicate 32 (0#8))) (ht rfl) (ht rfl) (.next .here) (Path.all R_api_Hash) (by kernel_rfl) rfl ?_
      refine jp (pa has_bl) rfl rfl rfl ?_
      refine j_end ?_
      obtain rfl := oi h
      exact run_ret fun a w hst => q_retN hst rfl (.cons (.cell rfl .here (by kernel_rfl)) <| .cons (.tmp rfl) <| .nil) rfl () (fun _ _ h => h) (.nil)
    · replace h := bf e7 h
      refine run_skip ?_
      refine rs ?_
      refine rt ?_
      refine jp (pm (ht rfl)) rfl rfl rfl ?_
      obtain ⟨r5, e8, h⟩ := bind_some h
      refine j_call (hc (ht rfl) <| hc has_i64 <| hasL_nil) (by kernel_rfl) (c_wire_Reader_Plain e8) (.cons .here <| .nil) rfl fun _ => ?_
      refine jp (pa (ht rfl)) rfl rfl rfl ?_
      refine j_end ?_
      refine rs ?_
      refine rt ?_
      refine jp (pj_field_to (ht rfl) (Path.then (Path.snd i64 (prod i64 i64)) (Path.fst i64 i64)) (by kernel_rfl)) rfl rfl rfl ?_
      refine jp (pl (ht rfl) (by kernel_rfl)) rfl rfl rfl ?_
      obtain ⟨e9, h⟩ := grd_some h
      obtain ⟨x1, e10, h⟩ := bind_some h
      refine j_makeSlicex (T := 23) (R := R_api_Hash) (z := (Vector.replicate 32 (0#8))) (ht rfl) (ht rfl) e9.1 (Int.le_refl _) e9.2 (by kernel_rfl) (zero_vec 32 zero_un) (by kernel_rfl) (oi e10) rfl fun v1 => ?_
      refine jp (pa (ht rfl)) rfl rfl rfl ?_
      refine j_end ?_
      refine rs ?_
      refine rs ?_
      obtain ⟨r6, e11, h⟩ := bind_some h
      obtain ⟨r7, e12, h⟩ := bind_some h
      refine run_draw (n := 10) (by kernel_rfl) (by kernel_rfl) (by kernel_rfl) (by kernel_rfl) (.read (.plain rfl (pl (ht rfl) (by kernel_rfl))) <| .read (.plain rfl (pl (ht rfl) (by kernel_rfl))) <| .read (.plain rfl (pm (ht rfl))) <| .read (.plain rfl (pm (ht rfl))) <| .read (.plain rfl (pm (ht rfl))) <| .read (.plain rfl (pj_buildSlice (T := 26) (R := (sl u8)) (.cons (ht rfl) (.cons (ht rfl) .nil)) rfl (by kernel_rfl) (by kernel_rfl))) <| .read (.plain rfl (pj_call (hc (ht rfl) <| hc (ht rfl) <| hc has_i64 <| hc (ht rfl) <| hasL_nil) (by kernel_rfl) (c_lmots_under hg0 hg1 e11))) <| .read (.plain rfl (pj_call (hc (ht rfl) <| hc (ht rfl) <| hasL_nil) (by kernel_rfl) (Ctr.froze (c_lmots_form_digits e12)))) <| .read (.plain rfl (pj_len_sl (sz := 1) (ht rfl) (by kernel_rfl))) <| .read (.plain rfl (pm has_i64)) <| .nil) (j_to (Γ' := [(1, u32.slot p_q), (4, ptrTo R_api_ID p_id), (8, val (.pointer (some ⟨b1, 0, none⟩))), (10, val (.pointer (some ⟨b2, 0, none⟩))), (12, ptrTo R_lmots_form r3.1), (15, ov v1), (51, (sl i64).slot r7), (52, i64.slot (r7.length : Int)), (53, i64.slot (0 : Int))]) (H' := [own 23 R_api_Hash v1 x1, box b2 98 (prod (sl u8) bl) (r5.1.1, r5.1.2), box b1 23 R_api_Hash (Vector.replicate 32 (0#8))]) (.cons (.of_lk rfl) <| .cons (.of_lk rfl) <| .cons (.of_lk rfl) <| .cons (.of_lk rfl) <| .cons (.of_lk rfl) <| .cons (.of_lk rfl) <| .cons (.of_lk rfl) <| .cons (.of_lk rfl) <| .cons (.of_lk rfl) <| .nil) (.cons .here <| .cons .here <| .cons .here <| .nil) ?_)
      refine j_end ?_
      obtain ⟨⟨y6, y7, y8, y9⟩, e20, h⟩ := bind_some h
      refine run_loopS (Γi := fun (i : Unit) (s : Int × (List T_api_Hash) × (List (BitVec 8)) × Bool) => [(1, u32.slot p_q), (4, ptrTo R_api_ID p_id), (8, val (.pointer (some ⟨b1, 0, none⟩))), (10, val (.pointer (some ⟨b2, 0, none⟩))), (12, ptrTo R_lmots_form r3.1), (15, ov v1), (51, (sl i64).slot r7), (52, i64.slot (r7.length : Int)), (53, i64.slot s.1)]) (Hi := fun (i : Unit) (s : Int × (List T_api_Hash) × (List (BitVec 8)) × Bool) => [own 23 R_api_Hash v1 s.2.1, box b2 98 (prod (sl u8) bl) (s.2.2.1, s.2.2.2), box b1 23 R_api_Hash (Vector.replicate 32 (0#8))]) e20 () (fun a w hst => (hst.sub (.cons (.of_lk rfl) <| .cons (.of_lk rfl) <| .cons (.of_lk rfl) <| .cons (.of_lk rfl) <| .cons (.of_lk rfl) <| .cons (.of_lk rfl) <| .cons (.of_lk rfl) <| .cons (.of_lk rfl) <| .cons (.of_lk rfl) <| .nil)).keep (.cons .here <| .cons .here <| .cons .here <| .nil)) ?_ ?_
      · clear h e20
        rintro _ ⟨y2, y3, y4, y5⟩ lr h
        change lmots_Recover_L1 r7 r3 p_id p_q y2 y3 y4 y5 = some _ at h
        show Run _ _ _ [(1, u32.slot p_q), (4, ptrTo R_api_ID p_id), (8, val (.pointer (some ⟨b1, 0, none⟩))), (10, val (.pointer (some ⟨b2, 0, none⟩))), (12, ptrTo R_lmots_form r3.1), (15, ov v1), (51, (sl i64).slot r7), (52, i64.slot (r7.length : Int)), (53, i64.slot y2)] [own 23 R_api_Hash v1 y3, box b2 98 (prod (sl u8) bl) (y4, y5), box b1 23 R_api_Hash (Vector.replicate 32 (0#8))]
        unfold lmots_Recover_L1 at h
        refine rs ?_
        refine rt ?_
        refine jp (pj_ilss (ht rfl) (ht rfl)) rfl rfl rfl ?_
        refine j_end ?_
        refine rs ?_
        refine run_cond (ht rfl) (fun e13 => ?_) (fun e13 => ?_)
        · replace h := bt e13 h
          refine run_skip ?_
          refine rs ?_
          refine run_block ?_
          refine rs ?_
          refine rt ?_
          refine jp (pm (ht rfl)) rfl rfl rfl ?_
          obtain ⟨x2, e14, h⟩ := bind_some h
          refine jp (pj_index_slx (ht rfl) (ht rfl) isInt_i64 e14 (by kernel_rfl)) rfl rfl rfl ?_
          refine jp (pl (ht rfl) (by kernel_rfl)) rfl rfl rfl ?_
          refine jp (pa (ht rfl)) rfl rfl rfl ?_
          refine jp (pa (ht rfl)) rfl rfl rfl ?_
          refine j_end ?_
          obtain ⟨r8, e15, h⟩ := bind_some h
          obtain ⟨x3, e16, h⟩ := bind_some h
          obtain ⟨r9, e17, h⟩ := bind_some h
          obtain ⟨r10, e18, h⟩ := bind_some h
          refine run_keep (H' := [box b2 98 (prod (sl u8) bl) (y4, y5), own 23 R_api_Hash v1 y3, box b1 23 R_api_Hash (Vector.replicate 32 (0#8))]) (.cons (.next .here) <| .cons .here <| .cons .here <| .nil) ?_
          refine run_drawL (n := 13) (H := [own 23 R_api_Hash v1 y3, box b1 23 R_api_Hash (Vector.replicate 32 (0#8))]) (Ls := [⟨[box b2 98 (prod (sl u8) bl) (y4, y5)], [(6, ⟨Unit, fun (_ : Unit) => [box b2 98 (prod (sl u8) bl) (r8.1.1, r8.1.2)], fun (_ : Unit) => [(64, (sl u8).slot r8.2)]⟩)]⟩]) (by kernel_rfl) (by kernel_rfl) (by kernel_rfl) (by kernel_rfl) (by kernel_rfl) rfl (.read rfl (.plain rfl (pm (ht rfl))) <| .read rfl (.plain rfl (pm (ht rfl))) <| .read rfl (.plain rfl (pl (ht rfl) (by kernel_rfl))) <| .read rfl (.plain rfl (pm (ht rfl))) <| .read rfl (.plain rfl (pm (ht rfl))) <| .read rfl (.plain rfl (pm (ht rfl))) <| .step 0 rfl .here (.inl rfl) (fun i => ⟨_, _, fun _ => (), (w_call (hc (ht rfl) <| hc has_i64 <| hasL_nil) (by kernel_rfl) (c_wire_Reader_Plain e15) (.cons .here <| .nil) rfl), fun _ => rfl, slotIs, dst1⟩) <| .read rfl (.plain rfl (pj_s2apx (e := 5) (ht rfl) e16 rfl (by kernel_rfl))) <| .read rfl (.plain rfl (pl (ht rfl) (by kernel_rfl))) <| .read rfl (.plain rfl (pm (ht rfl))) <| .read rfl (.plain rfl (pl (ht rfl) (by kernel_rfl))) <| .read rfl (.plain rfl (pj_call (hc (ht rfl) <| hasL_nil) (by kernel_rfl) (c_lmots_form_most e17))) <| .read rfl (.plain rfl (pj_call (hc (ht rfl) <| hc (ht rfl) <| hc (ht rfl) <| hc (ht rfl) <| hc (ht rfl) <| hc (ht rfl) <| hasL_nil) (by kernel_rfl) (c_lmots_chain hg0 hg1 e18))) <| .nil) ?_
          rintro _
          refine j_to (Γ' := [(1, u32.slot p_q), (4, ptrTo R_api_ID p_id), (8, val (.pointer (some ⟨b1, 0, none⟩))), (10, val (.pointer (some ⟨b2, 0, none⟩))), (12, ptrTo R_lmots_form r3.1), (15, ov v1), (51, (sl i64).slot r7), (52, i64.slot (r7.length : Int)), (53, i64.slot y2), (58, ov v1), (59, i64.slot y2), (70, R_api_Hash.slot r10)]) (H' := [box b2 98 (prod (sl u8) bl) (r8.1.1, r8.1.2), own 23 R_api_Hash v1 y3, box b1 23 R_api_Hash (Vector.replicate 32 (0#8))]) (.cons (.of_lk rfl) <| .cons (.of_lk rfl) <| .cons (.of_lk rfl) <| .cons (.of_lk rfl) <| .cons (.of_lk rfl) <| .cons (.of_lk rfl) <| .cons (.of_lk rfl) <| .cons (.of_lk rfl) <| .cons (.of_lk rfl) <| .cons (.of_lk rfl) <| .cons (.of_lk rfl) <| .cons (.of_lk rfl) <| .nil) (.cons .here <| .cons .here <| .cons .here <| .nil) ?_
          obtain ⟨e19, h⟩ := grd_some h
          refine jp (pj_index_own (ht rfl) (.next .here) (ht rfl) isInt_i64 e19.1 (lt_nat e19) (by kernel_rfl)) rfl rfl rfl ?_
          refine j_store_own0 R_api_Hash (y2.toNat) (ht rfl) (ht rfl) (.next .here) (lt_nat e19) (by kernel_rfl) ?_
          refine j_end ?_
          refine run_endblock ?_
          refine rt ?_
          refine jp (pj_iadd (ht rfl) has_i64) rfl rfl rfl ?_
          refine jp (pm (ht rfl)) rfl rfl rfl ?_
          refine j_end ?_
          obtain rfl := oi h
          exact run_next () (.cons (.of_lk rfl) <| .cons (.of_lk rfl) <| .cons (.of_lk rfl) <| .cons (.of_lk rfl) <| .cons (.of_lk rfl) <| .cons (.of_lk rfl) <| .cons (.of_lk rfl) <| .cons (.of_lk rfl) <| .cons (.of_lk rfl) <| .nil) (.cons .here <| .cons .here <| .cons .here <| .nil)
        · replace h := bf e13 h
          obtain rfl := oi h
          exact run_brk () (.cons (.of_lk rfl) <| .cons (.of_lk rfl) <| .cons (.of_lk rfl) <| .cons (.of_lk rfl) <| .cons (.of_lk rfl) <| .cons (.of_lk rfl) <| .cons (.of_lk rfl) <| .cons (.of_lk rfl) <| .cons (.of_lk rfl) <| .nil) (.cons .here <| .cons .here <| .cons .here <| .nil)
      · rintro _
        show Run _ _ _ [(1, u32.slot p_q), (4, ptrTo R_api_ID p_id), (8, val (.pointer (some ⟨b1, 0, none⟩))), (10, val (.pointer (some ⟨b2, 0, none⟩))), (12, ptrTo R_lmots_form r3.1), (15, ov v1), (51, (sl i64).slot r7), (52, i64.slot (r7.length : Int)), (53, i64.slot y6)] [own 23 R_api_Hash v1 y7, box b2 98 (prod (sl u8) bl) (y8, y9), box b1 23 R_api_Hash (Vector.replicate 32 (0#8))]
        refine run_to (Γ' := [(1, u32.slot p_q), (4, ptrTo R_api_ID p_id), (8, val (.pointer (some ⟨b1, 0, none⟩))), (15, ov v1)]) (H' := [own 23 R_api_Hash v1 y7, box b1 23 R_api_Hash (Vector.replicate 32 (0#8))]) (.cons (.of_lk rfl) <| .cons (.of_lk rfl) <| .cons (.of_lk rfl) <| .cons (.of_lk rfl) <| .nil) (.cons .here <| .cons (.next .here) <| .nil) ?_
        refine rs ?_
        refine rt ?_
        refine jp (pl (ht rfl) (by kernel_rfl)) rfl rfl rfl ?_
        refine jp (pm (ht rfl)) rfl rfl rfl ?_
        refine jp (pm (ht rfl)) rfl rfl rfl ?_
        obtain ⟨r11, e21, h⟩ := bind_some h
        refine jp (pj_callB (hasBL_cons (hasB_of (ht rfl)) <| hasBL_cons (hasB_of (ht rfl)) <| hasBL_cons (hasB_own (ht rfl) .here) <| hasBL_nil) (by kernel_rfl) (c_lmots_folded hg0 hg1 e21) (Rep.flat_slot (flat_vec _ (flat_un _ _)) _)) rfl rfl rfl ?_
        refine j_store_boxx (r' := r11) (ht rfl) (ht rfl) (.next .here) (Path.all R_api_Hash) (by kernel_rfl) rfl ?_
        refine jp (pa has_bl) rfl rfl rfl ?_
        refine j_end ?_
        obtain rfl := oi h
        exact run_ret fun a w hst => q_retN hst rfl (.cons (.cell rfl .here (by kernel_rfl)) <| .cons (.tmp rfl) <| .nil) rfl () (fun _ _ h => h) (.nil)
  · rcases bool_tf (!r3.2) with e4 | e4
    · replace e5 := bt e4 e5
      refine j_guard_no2 (j := 2) (want := false) rfl rfl rfl rfl (bl_isx e4) rfl rfl rfl ?_
      refine j_guard_no2 (j := 2) (want := false) rfl rfl rfl rfl (bl_isx e4) rfl rfl rfl ?_
      refine j_guard_no2 (j := 2) (want := false) rfl rfl rfl rfl (bl_isx e4) rfl rfl rfl ?_
      refine j_guard_no2 (j := 2) (want := false) rfl rfl rfl rfl (bl_isx e4) rfl rfl rfl ?_
      refine j_guard_no2 (j := 2) (want := false) rfl rfl rfl rfl (bl_isx e4) rfl rfl rfl ?_
      refine j_guard_no2 (j := 2) (want := false) rfl rfl rfl rfl (bl_isx e4) rfl rfl rfl ?_
      refine jp (PJ.eqv (R := bl) (pj_pick (t := any) (ht rfl) (fun _ => has_bl) (fun he => absurd (e4.symm.trans he) (by decide))) (oi e5)) rfl rfl rfl ?_
      exact j_to (.cons (.of_lk rfl) <| .cons (.of_lk rfl) <| .cons (.of_lk rfl) <| .cons (.of_lk rfl) <| .cons (.of_lk rfl) <| .cons (.of_lk rfl) <| .cons (.of_lk rfl) <| .nil) (.cons .here <| .cons .here <| .nil) (J ())
    · replace e5 := bf e4 e5
      refine jy (pm (ht rfl)) rfl rfl rfl rfl (bl_isx e4) rfl rfl ?_
      refine jy (pj_len_sl (sz := 1) (ht rfl) (by kernel_rfl)) rfl rfl rfl rfl (bl_isx e4) rfl rfl ?_
      refine jy (pm (ht rfl)) rfl rfl rfl rfl (bl_isx e4) rfl rfl ?_
      refine jy (pj_conv_ui (by decide) (by kernel_rfl) (ht rfl)) rfl rfl rfl rfl (bl_isx e4) rfl rfl ?_
      obtain ⟨r4, e6, e5⟩ := bind_some e5
      refine jy (pj_call (hc (ht rfl) <| hasL_nil) (by kernel_rfl) (c_lmots_Size hg2 e6)) rfl rfl rfl rfl (bl_isx e4) rfl rfl ?_
      refine jy (pj_ineq (ht rfl) (ht rfl)) rfl rfl rfl rfl (bl_isx e4) rfl rfl ?_
      refine jp (PJ.eqv (R := bl) (pj_pick (t := any) (ht rfl) (fun he => absurd (e4.symm.trans he) (by decide)) (fun _ => (ht rfl))) (oi e5)) rfl rfl rfl ?_
      exact j_to (.cons (.of_lk rfl) <| .cons (.of_lk rfl) <| .cons (.of_lk rfl) <| .cons (.of_lk rfl) <| .cons (.of_lk rfl) <| .cons (.of_lk rfl) <| .cons (.of_lk rfl) <| .nil) (.cons .here <| .cons .here <| .nil) (J ())
set_option maxRecDepth 100000 in
set_option maxHeartbeats 4000000 in
theorem c_wire_Writer_within {G : GP} {p_w : (List (BitVec 8)) × Bool} {p_x : Int} {p_most : Int} {b_w : Nat} {v_w0 : Value} {r : ((List (BitVec 8)) × Bool) × Bool} (h : wire_Writer_within p_w p_x p_most = some r) : Ctr Tryd.prog G 129 [val (.pointer (some ⟨b_w, 0, none⟩)), i64.slot p_x, i64.slot p_most] [box b_w 63 (prod (exv v_w0) bl) ((), p_w.2), own 5 u8 v_w0 p_w.1] (fun (u0 : Value) => bl.slot r.2) (fun (u0 : Value) => [box b_w 63 (prod (exv u0) bl) ((), r.1.2), own 5 u8 u0 r.1.1]) := by
  unfold wire_Writer_within at h
  refine ctr_of_run Tryd.func129 rfl 24 rfl rfl fun m0 w0 b0 => ?_
  show Run _ _ _ [(0, val (.pointer (some ⟨b_w, 0, none⟩))), (1, i64.slot p_x), (2, i64.slot p_most)] _
  refine rs ?_
  refine rt ?_
  refine jp (pa has_bl) rfl rfl rfl ?_
  refine j_end ?_
  refine rs ?_
  refine rs ?_
  refine rt ?_
  refine jp (pm (ht rfl)) rfl rfl rfl ?_
  refine jp (pj_eq_nil_val (E := 63) (by kernel_rfl) (ht rfl)) rfl rfl rfl ?_
  refine j_end ?_
  refine run_cond_f (ht rfl) rfl ?_
  refine run_skip ?_
  refine rs ?_
  refine rs ?_
  refine rt ?_
  refine jp (pm (ht rfl)) rfl rfl rfl ?_
  refine jp (pj_ilss (ht rfl) has_i64) rfl rfl rfl ?_
  refine jp (pm (ht rfl)) rfl rfl rfl ?_
  obtain ⟨y1, e3, h⟩ := bind_some h
  refine j_joinx (ι := Unit) (Γ' := fun _ => [(0, val (.pointer (some ⟨b_w, 0, none⟩))), (15, bl.slot y1)]) (H' := fun _ => [box b_w 63 (prod (exv v_w0) bl) ((), p_w.2), own 5 u8 v_w0 p_w.1]) 4 ?_ fun J => ?_
  · intro _
    clear e3
    show OpsJ _ _ _ [(0, val (.pointer (some ⟨b_w, 0, none⟩))), (15, bl.slot y1)] [box b_w 63 (prod (exv v_w0) bl) ((), p_w.2), own 5 u8 v_w0 p_w.1] _
    refine j_end ?_
    refine run_cond (ht rfl) (fun e4 => ?_) (fun e4 => ?_)
    · replace h := bt e4 h
      refine rt ?_
      refine jp (pm (ht rfl)) rfl rfl rfl ?_
      refine jp (pj_nilCheck_ptr (ht rfl)) rfl rfl rfl ?_
      refine jp (pj_field_ptr (off := 1) (ht rfl) (by kernel_rfl)) rfl rfl rfl ?_
      refine j_store_boxx (r' := ((), true)) (ht rfl) has_bl .here (Path.then (Path.all (prod (exv v_w0) bl)) (Path.snd (exv v_w0) bl)) (by kernel_rfl) rfl ?_
      refine j_end ?_
      refine rs ?_
      refine rt ?_
      refine jp (pm (ht rfl)) rfl rfl rfl ?_
      refine jp (pj_nilCheck_ptr (ht rfl)) rfl rfl rfl ?_
      refine jp (pj_field_ptr (off := 1) (ht rfl) (by kernel_rfl)) rfl rfl rfl ?_
      refine jp (pj_load_box (ht rfl) .here (Path.then (Path.all (prod (exv v_w0) bl)) (Path.snd (exv v_w0) bl)) (by kernel_rfl)) rfl rfl rfl ?_
      refine jp (pj_not (ht rfl)) rfl rfl rfl ?_
      refine jp (pa (ht rfl)) rfl rfl rfl ?_
      refine j_end ?_
      obtain rfl := oi h
      exact run_ret fun a w hst => q_ret1 hst rfl (.tmp rfl) v_w0 (fun _ _ h => h) (.cons .here <| .cons .here <| .nil)
    · replace h := bf e4 h
      refine run_skip ?_
      refine rs ?_
      refine rt ?_
      refine jp (pm (ht rfl)) rfl rfl rfl ?_
      refine jp (pj_nilCheck_ptr (ht rfl)) rfl rfl rfl ?_
      refine jp (pj_field_ptr (off := 1) (ht rfl) (by kernel_rfl)) rfl rfl rfl ?_
      refine jp (pj_load_box (ht rfl) .here (Path.then (Path.all (prod (exv v_w0) bl)) (Path.snd (exv v_w0) bl)) (by kernel_rfl)) rfl rfl rfl ?_
      refine jp (pj_not (ht rfl)) rfl rfl rfl ?_
      refine jp (pa (ht rfl)) rfl rfl rfl ?_
      refine j_end ?_
      obtain rfl := oi h
      exact run_ret fun a w hst => q_ret1 hst rfl (.tmp rfl) v_w0 (fun _ _ h => h) (.cons .here <| .cons .here <| .nil)
  · rcases bool_tf (decide (p_x < (0 : Int))) with e2 | e2
    · replace e3 := bt e2 e3
      refine j_guard_no2 (j := 2) (want := false) rfl rfl rfl rfl (bl_isx e2) rfl rfl rfl ?_
      refine j_guard_no2 (j := 2) (want := false) rfl rfl rfl rfl (bl_isx e2) rfl rfl rfl ?_
      refine j_guard_no2 (j := 2) (want := false) rfl rfl rfl rfl (bl_isx e2) rfl rfl rfl ?_
      refine jp (PJ.eqv (R := bl) (pj_pick (t := any) (ht rfl) (fun _ => has_bl) (fun he => absurd (e2.symm.trans he) (by decide))) (oi e3)) rfl rfl rfl ?_
      exact j_to (.cons (.of_lk rfl) <| .cons (.of_lk rfl) <| .nil) (.cons .here <| .cons .here <| .nil) (J ())
    · replace e3 := bf e2 e3
      refine jy (pm (ht rfl)) rfl rfl rfl rfl (bl_isx e2) rfl rfl ?_
      refine jy (pm (ht rfl)) rfl rfl rfl rfl (bl_isx e2) rfl rfl ?_
      refine jy (pj_igtr (ht rfl) (ht rfl)) rfl rfl rfl rfl (bl_isx e2) rfl rfl ?_
      refine jp (PJ.eqv (R := bl) (pj_pick (t := any) (ht rfl) (fun he => absurd (e2.symm.trans he) (by decide)) (fun _ => (ht rfl))) (oi e3)) rfl rfl rfl ?_
      exact j_to (.cons (.of_lk rfl) <| .cons (.of_lk rfl) <| .nil) (.cons .here <| .cons .here <| .nil) (J ())
set_option maxRecDepth 100000 in
set_option maxHeartbeats 4000000 in
theorem c_wire_Writer_U16 {G : GP} {p_w : (List (BitVec 8)) × Bool} {p_x : Int} {b_w : Nat} {v_w0 : Value} {r : ((List (BitVec 8)) × Bool)} (h : wire_Writer_U16 p_w p_x = some r) : Ctr Tryd.prog G 125 [val (.pointer (some ⟨b_w, 0, none⟩)), i64.slot p_x] [box b_w 63 (prod (exv v_w0) bl) ((), p_w.2), own 5 u8 v_w0 p_w.1] (fun (u0 : Value) => tup []) (fun (u0 : Value) => [box b_w 63 (prod (exv u0) bl) ((), r.2), own 5 u8 u0 r.1]) := by
  unfold wire_Writer_U16 at h
  refine ctr_of_run Tryd.func125 rfl 11 rfl rfl fun m0 w0 b0 => ?_
  show Run _ _ _ [(0, val (.pointer (some ⟨b_w, 0, none⟩))), (1, i64.slot p_x)] _
  refine rs ?_
  refine rt ?_
  refine jp (pm (ht rfl)) rfl rfl rfl ?_
  refine jp (pm (ht rfl)) rfl rfl rfl ?_
  obtain ⟨r1, e1, h⟩ := bind_some h
  refine j_call (hc (ht rfl) <| hc (ht rfl) <| hc has_i64 <| hasL_nil) (by kernel_rfl) (c_wire_Writer_within e1) (.cons .here <| .cons .here <| .nil) rfl fun v1 => ?_
  refine j_end ?_
  refine run_cond (ht rfl) (fun e2 => ?_) (fun e2 => ?_)
  · replace h := bt e2 h
    refine rt ?_
    refine jp (pm (ht rfl)) rfl rfl rfl ?_
    refine jp (pm (ht rfl)) rfl rfl rfl ?_
    refine jp (pj_conv_un (k := .u64) (b := 64) rfl rfl (by kernel_rfl) (ht rfl) isInt_i64) rfl rfl rfl ?_
    obtain ⟨r2, e3, h⟩ := bind_some h
    refine j_call (hc (ht rfl) <| hc (ht rfl) <| hc has_i64 <| hasL_nil) (by kernel_rfl) (c_wire_Writer_number e3) (.cons .here <| .cons .here <| .nil) rfl fun v2 => ?_
    refine j_end ?_
    obtain rfl := oi h
    exact run_nil fun a w hst => q_retN_n hst rfl (.nil) rfl v2 (fun _ _ h => h) (.cons .here <| .cons .here <| .nil)
  · replace h := bf e2 h
    refine run_skip ?_
    obtain rfl := oi h
    exact run_nil fun a w hst => q_retN_n hst rfl (.nil) rfl v1 (fun _ _ h => h) (.cons .here <| .cons .here <| .nil)
end Go.Sl.W
