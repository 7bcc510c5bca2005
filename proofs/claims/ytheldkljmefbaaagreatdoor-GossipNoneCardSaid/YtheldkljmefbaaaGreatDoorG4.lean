import Derived.Test.YtheldkljmefbaaaGreatDoorG3
set_option linter.unusedSimpArgs false
set_option linter.unusedVariables false
set_option linter.unusedSectionVars false
namespace Go.Sl
namespace Pu
open Go.Sl Go.Sl.M
theorem gossipNone (m n : Int) (h : T_rolodexref17_Head) : rolodexlaw27_GossipNone m n h = some true := by
  unfold rolodexlaw27_GossipNone
  have h1 : gossip_Pool_Put_nil (h, ([] : List (BitVec 8))) = some 1 := rfl
  have h2 : gossip_Pool_Link_nil m n (([] : List T_api_Hash), ([] : List T_api_Hash)) = some 1 := rfl
  have h3 : gossip_Pool_Linked (none : Option T_gossip_Pool) m n = some false := by
    unfold gossip_Pool_Linked; rw [if_t (by simp)]
  have h4 : gossip_Pool_Heads_nil = some ([] : List T_head_Signed) := rfl
  have h5 : gossip_Pool_Forks_nil = some ([] : List T_gossip_Fork) := rfl
  have h6 : gossip_Pool_Gaps (none : Option T_gossip_Pool) = some [] := by
    unfold gossip_Pool_Gaps; rw [if_t (by simp)]
  rw [bind_some' awake27, if_t rfl, Option.bind_some, bind_some' h1, Option.bind_some, if_t (by simp), bind_some' h2, Option.bind_some, if_t (by simp), bind_some' h3, Option.bind_some, if_t (by simp), bind_some' h4, Option.bind_some, if_t (by simp), bind_some' h5, Option.bind_some, if_t (by simp), bind_some' h6, Option.bind_some]
  rfl
end Pu
end Go.Sl
