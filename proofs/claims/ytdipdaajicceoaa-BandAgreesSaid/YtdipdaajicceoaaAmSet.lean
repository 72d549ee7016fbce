/-
The lemmas of the simp set, as one.
-/
import Derived.Test.YtdipdaajicceoaaAmIter
import Derived.Test.YtdipdaajicceoaaAmStat
namespace Go.AM
open Go Go.RowKit

theorem ss : type_of% (And.intro (And.intro (And.intro (And.intro (And.intro (And.intro (And.intro @Option.getD_some.{0}
 @List.cons_append.{0})
 (And.intro @List.nil_append.{0}
 @den_seq))
 (And.intro (And.intro @den_region
 @den_block)
 (And.intro @den_skip
 (And.intro @den_ret
 @den_exit))))
 (And.intro (And.intro (And.intro @List.getD_cons_zero.{0}
 @List.getD_cons_succ.{0})
 (And.intro @Bool.false_eq_true
 (And.intro @if_false.{0}
 @List.contains_nil.{0})))
 (And.intro (And.intro @Bool.false_and
 @normally_some)
 (And.intro @andThen_normal
 (And.intro @andThen_exit
 @andThen_ret)))))
 (And.intro (And.intro (And.intro (And.intro @atBlock_normal
 @atBlock_exit)
 (And.intro @atBlock_ret
 @after_normal))
 (And.intro (And.intro @after_exit
 @after_ret)
 (And.intro @outOfCall_some
 (And.intro @atEnd_normal
 @atEnd_ret))))
 (And.intro (And.intro (And.intro @allM_nil
 @allM_cons)
 (And.intro @resolve_int
 (And.intro @resolve_bool
 @resolve_lit)))
 (And.intro (And.intro @resolve_sl
 @resolve_fp)
 (And.intro @resolve_emp
 (And.intro @resolve_agg
 @resolve_tup))))))
 (And.intro (And.intro (And.intro (And.intro (And.intro @resolve_clo
 @resolve_own)
 (And.intro @Option.map_some.{0, 0}
 @Option.map_none.{0, 0}))
 (And.intro (And.intro @List.length_cons.{0}
 @List.length_nil.{0})
 (And.intro @List.length_map.{0, 0}
 (And.intro @List.contains_cons.{0}
 @Bool.or_false))))
 (And.intro (And.intro (And.intro @Bool.false_or
 @Bool.or_true)
 (And.intro @Bool.true_or
 (And.intro @beq_self_eq_true.{0}
 @List.map_cons.{0, 0})))
 (And.intro (And.intro @List.map_nil.{0, 0}
 @List.filter_cons.{0})
 (And.intro @List.filter_nil.{0}
 (And.intro @List.flatMap_cons.{0, 0}
 @List.flatMap_nil.{0, 0})))))
 (And.intro (And.intro (And.intro (And.intro @Bool.not_true
 @Bool.not_false)
 (And.intro @and_self
 @and_true))
 (And.intro (And.intro @true_and
 @List.getElem?_cons_zero.{0})
 (And.intro @List.getElem?_cons_succ.{0}
 (And.intro @List.getElem?_nil.{0}
 @List.drop_succ_cons.{0}))))
 (And.intro (And.intro (And.intro @List.drop_zero.{0}
 @List.take_succ_cons.{0})
 (And.intro @List.take_zero.{0}
 (And.intro @List.drop_nil.{0}
 @List.take_nil.{0})))
 (And.intro (And.intro @List.append_nil.{0}
 @Nat.le_refl)
 (And.intro @Option.getD_none.{0}
 (And.intro @Bool.and_true
 @Bool.true_and)))))))
 (And.intro (And.intro (And.intro (And.intro (And.intro (And.intro @Bool.and_false
 @Bool.and_self)
 (And.intro @Nat.lt_irrefl
 @Nat.zero_add))
 (And.intro (And.intro @List.contains_append.{0}
 @Option.bind_none.{0, 0})
 (And.intro @Option.bind_some.{0, 0}
 (And.intro @Bool.and_eq_true
 @decide_true))))
 (And.intro (And.intro (And.intro @decide_false
 @Bool.not_eq_true')
 (And.intro @List.take_length.{0}
 (And.intro @List.range_succ
 @List.range_zero)))
 (And.intro (And.intro @Option.some.injEq.{0}
 @ne_eq.{0})
 (And.intro @not_false_eq_true
 (And.intro @not_true_eq_false
 @List.all_cons.{0})))))
 (And.intro (And.intro (And.intro (And.intro @List.all_nil.{0}
 @List.getElem?_toArray.{0})
 (And.intro @beqT
 @beqF))
 (And.intro (And.intro @Bool.cond_true.{0}
 @Bool.cond_false.{0})
 (And.intro @or_self
 (And.intro @true_or
 @or_true))))
 (And.intro (And.intro (And.intro @or_false
 @false_or)
 (And.intro @ask_true
 (And.intro @ask_false
 @pickV_true)))
 (And.intro (And.intro @pickV_false
 @resolve_ptr)
 (And.intro @evOpsD_nil
 (And.intro @evOpsD_cons
 @evRegion_calm))))))
 (And.intro (And.intro (And.intro (And.intro (And.intro @opsG_true
 @opsG_false)
 (And.intro @thenOps_some
 @condB_true))
 (And.intro (And.intro @condB_false
 @condG_bool)
 (And.intro @den_condG
 (And.intro @den_loopAt
 @evED_nil))))
 (And.intro (And.intro (And.intro @evED_cons
 @effG_true)
 (And.intro @effG_false
 (And.intro @thenEff_some
 @den_range)))
 (And.intro (And.intro @den_label
 @afterA_normal)
 (And.intro @afterR_normal
 (And.intro @afterR_exit
 @afterR_ret)))))
 (And.intro (And.intro (And.intro (And.intro @popped_some
 @evAppend_eq)
 (And.intro @appG0_some
 (And.intro @appG1_some
 @appG2_some)))
 (And.intro (And.intro @refFree_vI
 @isNew_vI)
 (And.intro @plain_vI
 (And.intro @sized_vI
 @ite_min))))
 (And.intro (And.intro (And.intro @ite_max
 @tidy_mk)
 (And.intro @List.headD_cons.{0}
 (And.intro @evCall_clo
 @lendG_some)))
 (And.intro (And.intro @callG_some
 @inlG_some)
 (And.intro @take_map_length
 (And.intro @Int.natCast_zero
 @List.isEmpty_nil.{0})))))))) :=
(And.intro (And.intro (And.intro (And.intro (And.intro (And.intro (And.intro @Option.getD_some.{0}
 @List.cons_append.{0})
 (And.intro @List.nil_append.{0}
 @den_seq))
 (And.intro (And.intro @den_region
 @den_block)
 (And.intro @den_skip
 (And.intro @den_ret
 @den_exit))))
 (And.intro (And.intro (And.intro @List.getD_cons_zero.{0}
 @List.getD_cons_succ.{0})
 (And.intro @Bool.false_eq_true
 (And.intro @if_false.{0}
 @List.contains_nil.{0})))
 (And.intro (And.intro @Bool.false_and
 @normally_some)
 (And.intro @andThen_normal
 (And.intro @andThen_exit
 @andThen_ret)))))
 (And.intro (And.intro (And.intro (And.intro @atBlock_normal
 @atBlock_exit)
 (And.intro @atBlock_ret
 @after_normal))
 (And.intro (And.intro @after_exit
 @after_ret)
 (And.intro @outOfCall_some
 (And.intro @atEnd_normal
 @atEnd_ret))))
 (And.intro (And.intro (And.intro @allM_nil
 @allM_cons)
 (And.intro @resolve_int
 (And.intro @resolve_bool
 @resolve_lit)))
 (And.intro (And.intro @resolve_sl
 @resolve_fp)
 (And.intro @resolve_emp
 (And.intro @resolve_agg
 @resolve_tup))))))
 (And.intro (And.intro (And.intro (And.intro (And.intro @resolve_clo
 @resolve_own)
 (And.intro @Option.map_some.{0, 0}
 @Option.map_none.{0, 0}))
 (And.intro (And.intro @List.length_cons.{0}
 @List.length_nil.{0})
 (And.intro @List.length_map.{0, 0}
 (And.intro @List.contains_cons.{0}
 @Bool.or_false))))
 (And.intro (And.intro (And.intro @Bool.false_or
 @Bool.or_true)
 (And.intro @Bool.true_or
 (And.intro @beq_self_eq_true.{0}
 @List.map_cons.{0, 0})))
 (And.intro (And.intro @List.map_nil.{0, 0}
 @List.filter_cons.{0})
 (And.intro @List.filter_nil.{0}
 (And.intro @List.flatMap_cons.{0, 0}
 @List.flatMap_nil.{0, 0})))))
 (And.intro (And.intro (And.intro (And.intro @Bool.not_true
 @Bool.not_false)
 (And.intro @and_self
 @and_true))
 (And.intro (And.intro @true_and
 @List.getElem?_cons_zero.{0})
 (And.intro @List.getElem?_cons_succ.{0}
 (And.intro @List.getElem?_nil.{0}
 @List.drop_succ_cons.{0}))))
 (And.intro (And.intro (And.intro @List.drop_zero.{0}
 @List.take_succ_cons.{0})
 (And.intro @List.take_zero.{0}
 (And.intro @List.drop_nil.{0}
 @List.take_nil.{0})))
 (And.intro (And.intro @List.append_nil.{0}
 @Nat.le_refl)
 (And.intro @Option.getD_none.{0}
 (And.intro @Bool.and_true
 @Bool.true_and)))))))
 (And.intro (And.intro (And.intro (And.intro (And.intro (And.intro @Bool.and_false
 @Bool.and_self)
 (And.intro @Nat.lt_irrefl
 @Nat.zero_add))
 (And.intro (And.intro @List.contains_append.{0}
 @Option.bind_none.{0, 0})
 (And.intro @Option.bind_some.{0, 0}
 (And.intro @Bool.and_eq_true
 @decide_true))))
 (And.intro (And.intro (And.intro @decide_false
 @Bool.not_eq_true')
 (And.intro @List.take_length.{0}
 (And.intro @List.range_succ
 @List.range_zero)))
 (And.intro (And.intro @Option.some.injEq.{0}
 @ne_eq.{0})
 (And.intro @not_false_eq_true
 (And.intro @not_true_eq_false
 @List.all_cons.{0})))))
 (And.intro (And.intro (And.intro (And.intro @List.all_nil.{0}
 @List.getElem?_toArray.{0})
 (And.intro @beqT
 @beqF))
 (And.intro (And.intro @Bool.cond_true.{0}
 @Bool.cond_false.{0})
 (And.intro @or_self
 (And.intro @true_or
 @or_true))))
 (And.intro (And.intro (And.intro @or_false
 @false_or)
 (And.intro @ask_true
 (And.intro @ask_false
 @pickV_true)))
 (And.intro (And.intro @pickV_false
 @resolve_ptr)
 (And.intro @evOpsD_nil
 (And.intro @evOpsD_cons
 @evRegion_calm))))))
 (And.intro (And.intro (And.intro (And.intro (And.intro @opsG_true
 @opsG_false)
 (And.intro @thenOps_some
 @condB_true))
 (And.intro (And.intro @condB_false
 @condG_bool)
 (And.intro @den_condG
 (And.intro @den_loopAt
 @evED_nil))))
 (And.intro (And.intro (And.intro @evED_cons
 @effG_true)
 (And.intro @effG_false
 (And.intro @thenEff_some
 @den_range)))
 (And.intro (And.intro @den_label
 @afterA_normal)
 (And.intro @afterR_normal
 (And.intro @afterR_exit
 @afterR_ret)))))
 (And.intro (And.intro (And.intro (And.intro @popped_some
 @evAppend_eq)
 (And.intro @appG0_some
 (And.intro @appG1_some
 @appG2_some)))
 (And.intro (And.intro @refFree_vI
 @isNew_vI)
 (And.intro @plain_vI
 (And.intro @sized_vI
 @ite_min))))
 (And.intro (And.intro (And.intro @ite_max
 @tidy_mk)
 (And.intro @List.headD_cons.{0}
 (And.intro @evCall_clo
 @lendG_some)))
 (And.intro (And.intro @callG_some
 @inlG_some)
 (And.intro @take_map_length
 (And.intro @Int.natCast_zero
 @List.isEmpty_nil.{0}))))))))

end Go.AM
