/- The lemmas of the first simp set, as one. No condition. -/
import Derived.Test.YtffbfhjcpgcdeaaAmR
set_option linter.unusedVariables false
set_option linter.unusedSimpArgs false

namespace Go.AM
open Go Go.RowKit

theorem so : type_of% (And.intro (And.intro (And.intro (And.intro (And.intro (And.intro (And.intro @Option.getD_some.{0}
 @List.cons_append.{0})
 (And.intro @List.nil_append.{0}
 @den_seq))
 (And.intro (And.intro @den_region
 @den_block)
 (And.intro @den_skip
 @den_ret)))
 (And.intro (And.intro (And.intro @den_exit
 @List.getD_cons_zero.{0})
 (And.intro @List.getD_cons_succ.{0}
 @Bool.false_eq_true))
 (And.intro (And.intro @if_false.{0}
 @List.contains_nil.{0})
 (And.intro @Bool.false_and
 @normally_some))))
 (And.intro (And.intro (And.intro (And.intro @andThen_normal
 @andThen_exit)
 (And.intro @andThen_ret
 @atBlock_normal))
 (And.intro (And.intro @atBlock_exit
 @atBlock_ret)
 (And.intro @after_normal
 @after_exit)))
 (And.intro (And.intro (And.intro @after_ret
 @outOfCall_some)
 (And.intro @atEnd_normal
 @atEnd_ret))
 (And.intro (And.intro @allM_nil
 @allM_cons)
 (And.intro @resolve_int
 @resolve_bool)))))
 (And.intro (And.intro (And.intro (And.intro (And.intro @resolve_lit
 @resolve_sl)
 (And.intro @resolve_fp
 @resolve_emp))
 (And.intro (And.intro @resolve_agg
 @resolve_tup)
 (And.intro @resolve_clo
 @resolve_own)))
 (And.intro (And.intro (And.intro @Option.map_some.{0, 0}
 @Option.map_none.{0, 0})
 (And.intro @List.length_cons.{0}
 @List.length_nil.{0}))
 (And.intro (And.intro @List.length_map.{0, 0}
 @List.contains_cons.{0})
 (And.intro @Bool.or_false
 @Bool.false_or))))
 (And.intro (And.intro (And.intro (And.intro @Bool.or_true
 @Bool.true_or)
 (And.intro @beq_self_eq_true.{0}
 @List.map_cons.{0, 0}))
 (And.intro (And.intro @List.map_nil.{0, 0}
 @List.filter_cons.{0})
 (And.intro @List.filter_nil.{0}
 @List.flatMap_cons.{0, 0})))
 (And.intro (And.intro (And.intro @List.flatMap_nil.{0, 0}
 @Bool.not_true)
 (And.intro @Bool.not_false
 @and_self))
 (And.intro (And.intro @and_true
 @true_and)
 (And.intro @List.getElem?_cons_zero.{0}
 (And.intro @List.getElem?_cons_succ.{0}
 @List.getElem?_nil.{0})))))))
 (And.intro (And.intro (And.intro (And.intro (And.intro (And.intro @List.drop_succ_cons.{0}
 @List.drop_zero.{0})
 (And.intro @List.take_succ_cons.{0}
 @List.take_zero.{0}))
 (And.intro (And.intro @List.drop_nil.{0}
 @List.take_nil.{0})
 (And.intro @List.append_nil.{0}
 @Nat.le_refl)))
 (And.intro (And.intro (And.intro @Option.getD_none.{0}
 @Bool.and_true)
 (And.intro @Bool.true_and
 @Bool.and_false))
 (And.intro (And.intro @Bool.and_self
 @Nat.lt_irrefl)
 (And.intro @Nat.zero_add
 @List.contains_append.{0}))))
 (And.intro (And.intro (And.intro (And.intro @Option.bind_none.{0, 0}
 @Option.bind_some.{0, 0})
 (And.intro @Bool.and_eq_true
 @decide_true))
 (And.intro (And.intro @decide_false
 @Bool.not_eq_true')
 (And.intro @List.take_length.{0}
 @List.range_succ)))
 (And.intro (And.intro (And.intro @List.range_zero
 @Option.some.injEq.{0})
 (And.intro @ne_eq.{0}
 @not_false_eq_true))
 (And.intro (And.intro @not_true_eq_false
 @List.all_cons.{0})
 (And.intro @List.all_nil.{0}
 (And.intro @List.getElem?_toArray.{0}
 @beqT))))))
 (And.intro (And.intro (And.intro (And.intro (And.intro @beqF
 @Bool.cond_true.{0})
 (And.intro @Bool.cond_false.{0}
 @or_self))
 (And.intro (And.intro @true_or
 @or_true)
 (And.intro @or_false
 @false_or)))
 (And.intro (And.intro (And.intro @ask_true
 @ask_false)
 (And.intro @pickV_true
 @pickV_false))
 (And.intro (And.intro @resolve_ptr
 @den_regT)
 (And.intro @regG_no
 @regL_no))))
 (And.intro (And.intro (And.intro (And.intro @frameG_no
 @frameG_yes)
 (And.intro @regG_yes
 @freshG_no))
 (And.intro (And.intro @freshG_yes
 @resolve_pre)
 (And.intro @evApp_emp
 @evApp_own)))
 (And.intro (And.intro (And.intro @evApp_full
 @evApp_pre)
 (And.intro @evSlice_emp
 @evSlice_sl))
 (And.intro (And.intro @evSlice_full
 @evSlice_own)
 (And.intro @evSlice_pre
 (And.intro @preV_no
 @preV_yes)))))))) :=
 (And.intro (And.intro (And.intro (And.intro (And.intro (And.intro (And.intro @Option.getD_some.{0}
 @List.cons_append.{0})
 (And.intro @List.nil_append.{0}
 @den_seq))
 (And.intro (And.intro @den_region
 @den_block)
 (And.intro @den_skip
 @den_ret)))
 (And.intro (And.intro (And.intro @den_exit
 @List.getD_cons_zero.{0})
 (And.intro @List.getD_cons_succ.{0}
 @Bool.false_eq_true))
 (And.intro (And.intro @if_false.{0}
 @List.contains_nil.{0})
 (And.intro @Bool.false_and
 @normally_some))))
 (And.intro (And.intro (And.intro (And.intro @andThen_normal
 @andThen_exit)
 (And.intro @andThen_ret
 @atBlock_normal))
 (And.intro (And.intro @atBlock_exit
 @atBlock_ret)
 (And.intro @after_normal
 @after_exit)))
 (And.intro (And.intro (And.intro @after_ret
 @outOfCall_some)
 (And.intro @atEnd_normal
 @atEnd_ret))
 (And.intro (And.intro @allM_nil
 @allM_cons)
 (And.intro @resolve_int
 @resolve_bool)))))
 (And.intro (And.intro (And.intro (And.intro (And.intro @resolve_lit
 @resolve_sl)
 (And.intro @resolve_fp
 @resolve_emp))
 (And.intro (And.intro @resolve_agg
 @resolve_tup)
 (And.intro @resolve_clo
 @resolve_own)))
 (And.intro (And.intro (And.intro @Option.map_some.{0, 0}
 @Option.map_none.{0, 0})
 (And.intro @List.length_cons.{0}
 @List.length_nil.{0}))
 (And.intro (And.intro @List.length_map.{0, 0}
 @List.contains_cons.{0})
 (And.intro @Bool.or_false
 @Bool.false_or))))
 (And.intro (And.intro (And.intro (And.intro @Bool.or_true
 @Bool.true_or)
 (And.intro @beq_self_eq_true.{0}
 @List.map_cons.{0, 0}))
 (And.intro (And.intro @List.map_nil.{0, 0}
 @List.filter_cons.{0})
 (And.intro @List.filter_nil.{0}
 @List.flatMap_cons.{0, 0})))
 (And.intro (And.intro (And.intro @List.flatMap_nil.{0, 0}
 @Bool.not_true)
 (And.intro @Bool.not_false
 @and_self))
 (And.intro (And.intro @and_true
 @true_and)
 (And.intro @List.getElem?_cons_zero.{0}
 (And.intro @List.getElem?_cons_succ.{0}
 @List.getElem?_nil.{0})))))))
 (And.intro (And.intro (And.intro (And.intro (And.intro (And.intro @List.drop_succ_cons.{0}
 @List.drop_zero.{0})
 (And.intro @List.take_succ_cons.{0}
 @List.take_zero.{0}))
 (And.intro (And.intro @List.drop_nil.{0}
 @List.take_nil.{0})
 (And.intro @List.append_nil.{0}
 @Nat.le_refl)))
 (And.intro (And.intro (And.intro @Option.getD_none.{0}
 @Bool.and_true)
 (And.intro @Bool.true_and
 @Bool.and_false))
 (And.intro (And.intro @Bool.and_self
 @Nat.lt_irrefl)
 (And.intro @Nat.zero_add
 @List.contains_append.{0}))))
 (And.intro (And.intro (And.intro (And.intro @Option.bind_none.{0, 0}
 @Option.bind_some.{0, 0})
 (And.intro @Bool.and_eq_true
 @decide_true))
 (And.intro (And.intro @decide_false
 @Bool.not_eq_true')
 (And.intro @List.take_length.{0}
 @List.range_succ)))
 (And.intro (And.intro (And.intro @List.range_zero
 @Option.some.injEq.{0})
 (And.intro @ne_eq.{0}
 @not_false_eq_true))
 (And.intro (And.intro @not_true_eq_false
 @List.all_cons.{0})
 (And.intro @List.all_nil.{0}
 (And.intro @List.getElem?_toArray.{0}
 @beqT))))))
 (And.intro (And.intro (And.intro (And.intro (And.intro @beqF
 @Bool.cond_true.{0})
 (And.intro @Bool.cond_false.{0}
 @or_self))
 (And.intro (And.intro @true_or
 @or_true)
 (And.intro @or_false
 @false_or)))
 (And.intro (And.intro (And.intro @ask_true
 @ask_false)
 (And.intro @pickV_true
 @pickV_false))
 (And.intro (And.intro @resolve_ptr
 @den_regT)
 (And.intro @regG_no
 @regL_no))))
 (And.intro (And.intro (And.intro (And.intro @frameG_no
 @frameG_yes)
 (And.intro @regG_yes
 @freshG_no))
 (And.intro (And.intro @freshG_yes
 @resolve_pre)
 (And.intro @evApp_emp
 @evApp_own)))
 (And.intro (And.intro (And.intro @evApp_full
 @evApp_pre)
 (And.intro @evSlice_emp
 @evSlice_sl))
 (And.intro (And.intro @evSlice_full
 @evSlice_own)
 (And.intro @evSlice_pre
 (And.intro @preV_no
 @preV_yes))))))))

end Go.AM

