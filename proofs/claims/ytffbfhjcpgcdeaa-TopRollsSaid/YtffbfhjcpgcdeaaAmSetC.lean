/- The lemmas of the first simp set, as one. No condition. -/
import Derived.Test.YtffbfhjcpgcdeaaAmR
set_option linter.unusedVariables false
set_option linter.unusedSimpArgs false

namespace Go.AM
open Go Go.RowKit

theorem so : type_of% (And.intro (And.intro (And.intro (And.intro (And.intro (And.intro @Option.getD_some.{0}
 (And.intro @List.cons_append.{0}
 @List.nil_append.{0}))
 (And.intro (And.intro @den_seq
 @den_region)
 (And.intro @den_block
 @den_skip)))
 (And.intro (And.intro @den_ret
 (And.intro @den_exit
 @List.getD_cons_zero.{0}))
 (And.intro (And.intro @List.getD_cons_succ.{0}
 @Bool.false_eq_true)
 (And.intro @if_false.{0}
 @List.contains_nil.{0}))))
 (And.intro (And.intro (And.intro @Bool.false_and
 (And.intro @normally_some
 @andThen_normal))
 (And.intro (And.intro @andThen_exit
 @andThen_ret)
 (And.intro @atBlock_normal
 @atBlock_exit)))
 (And.intro (And.intro (And.intro @atBlock_ret
 @after_normal)
 (And.intro @after_exit
 @after_ret))
 (And.intro (And.intro @outOfCall_some
 @atEnd_normal)
 (And.intro @atEnd_ret
 @allM_nil)))))
 (And.intro (And.intro (And.intro (And.intro @allM_cons
 (And.intro @resolve_int
 @resolve_bool))
 (And.intro (And.intro @resolve_lit
 @resolve_sl)
 (And.intro @resolve_fp
 @resolve_emp)))
 (And.intro (And.intro @resolve_agg
 (And.intro @resolve_tup
 @resolve_clo))
 (And.intro (And.intro @resolve_own
 @Option.map_some.{0, 0})
 (And.intro @Option.map_none.{0, 0}
 @List.length_cons.{0}))))
 (And.intro (And.intro (And.intro @List.length_nil.{0}
 (And.intro @List.length_map.{0, 0}
 @List.contains_cons.{0}))
 (And.intro (And.intro @Bool.or_false
 @Bool.false_or)
 (And.intro @Bool.or_true
 @Bool.true_or)))
 (And.intro (And.intro (And.intro @beq_self_eq_true.{0}
 @List.map_cons.{0, 0})
 (And.intro @List.map_nil.{0, 0}
 @List.filter_cons.{0}))
 (And.intro (And.intro @List.filter_nil.{0}
 @List.flatMap_cons.{0, 0})
 (And.intro @List.flatMap_nil.{0, 0}
 @Bool.not_true))))))
 (And.intro (And.intro (And.intro (And.intro (And.intro @Bool.not_false
 (And.intro @and_self
 @and_true))
 (And.intro (And.intro @true_and
 @List.getElem?_cons_zero.{0})
 (And.intro @List.getElem?_cons_succ.{0}
 @List.getElem?_nil.{0})))
 (And.intro (And.intro @List.drop_succ_cons.{0}
 (And.intro @List.drop_zero.{0}
 @List.take_succ_cons.{0}))
 (And.intro (And.intro @List.take_zero.{0}
 @List.drop_nil.{0})
 (And.intro @List.take_nil.{0}
 @List.append_nil.{0}))))
 (And.intro (And.intro (And.intro @Nat.le_refl
 (And.intro @Option.getD_none.{0}
 @Bool.and_true))
 (And.intro (And.intro @Bool.true_and
 @Bool.and_false)
 (And.intro @Bool.and_self
 @Nat.lt_irrefl)))
 (And.intro (And.intro (And.intro @Nat.zero_add
 @List.contains_append.{0})
 (And.intro @Option.bind_none.{0, 0}
 @Option.bind_some.{0, 0}))
 (And.intro (And.intro @Bool.and_eq_true
 @decide_true)
 (And.intro @decide_false
 @Bool.not_eq_true')))))
 (And.intro (And.intro (And.intro (And.intro @List.take_length.{0}
 (And.intro @List.range_succ
 @List.range_zero))
 (And.intro (And.intro @Option.some.injEq.{0}
 @ne_eq.{0})
 (And.intro @not_false_eq_true
 @not_true_eq_false)))
 (And.intro (And.intro @List.all_cons.{0}
 (And.intro @List.all_nil.{0}
 @List.getElem?_toArray.{0}))
 (And.intro (And.intro @beqT
 @beqF)
 (And.intro @Bool.cond_true.{0}
 @Bool.cond_false.{0}))))
 (And.intro (And.intro (And.intro @or_self
 (And.intro @true_or
 @or_true))
 (And.intro (And.intro @or_false
 @false_or)
 (And.intro @ask_true
 @ask_false)))
 (And.intro (And.intro (And.intro @pickV_true
 @pickV_false)
 (And.intro @resolve_ptr
 @den_regT))
 (And.intro (And.intro @regG_no
 @regL_no)
 (And.intro @frameG_no
 @frameG_yes))))))) :=
 (And.intro (And.intro (And.intro (And.intro (And.intro (And.intro @Option.getD_some.{0}
 (And.intro @List.cons_append.{0}
 @List.nil_append.{0}))
 (And.intro (And.intro @den_seq
 @den_region)
 (And.intro @den_block
 @den_skip)))
 (And.intro (And.intro @den_ret
 (And.intro @den_exit
 @List.getD_cons_zero.{0}))
 (And.intro (And.intro @List.getD_cons_succ.{0}
 @Bool.false_eq_true)
 (And.intro @if_false.{0}
 @List.contains_nil.{0}))))
 (And.intro (And.intro (And.intro @Bool.false_and
 (And.intro @normally_some
 @andThen_normal))
 (And.intro (And.intro @andThen_exit
 @andThen_ret)
 (And.intro @atBlock_normal
 @atBlock_exit)))
 (And.intro (And.intro (And.intro @atBlock_ret
 @after_normal)
 (And.intro @after_exit
 @after_ret))
 (And.intro (And.intro @outOfCall_some
 @atEnd_normal)
 (And.intro @atEnd_ret
 @allM_nil)))))
 (And.intro (And.intro (And.intro (And.intro @allM_cons
 (And.intro @resolve_int
 @resolve_bool))
 (And.intro (And.intro @resolve_lit
 @resolve_sl)
 (And.intro @resolve_fp
 @resolve_emp)))
 (And.intro (And.intro @resolve_agg
 (And.intro @resolve_tup
 @resolve_clo))
 (And.intro (And.intro @resolve_own
 @Option.map_some.{0, 0})
 (And.intro @Option.map_none.{0, 0}
 @List.length_cons.{0}))))
 (And.intro (And.intro (And.intro @List.length_nil.{0}
 (And.intro @List.length_map.{0, 0}
 @List.contains_cons.{0}))
 (And.intro (And.intro @Bool.or_false
 @Bool.false_or)
 (And.intro @Bool.or_true
 @Bool.true_or)))
 (And.intro (And.intro (And.intro @beq_self_eq_true.{0}
 @List.map_cons.{0, 0})
 (And.intro @List.map_nil.{0, 0}
 @List.filter_cons.{0}))
 (And.intro (And.intro @List.filter_nil.{0}
 @List.flatMap_cons.{0, 0})
 (And.intro @List.flatMap_nil.{0, 0}
 @Bool.not_true))))))
 (And.intro (And.intro (And.intro (And.intro (And.intro @Bool.not_false
 (And.intro @and_self
 @and_true))
 (And.intro (And.intro @true_and
 @List.getElem?_cons_zero.{0})
 (And.intro @List.getElem?_cons_succ.{0}
 @List.getElem?_nil.{0})))
 (And.intro (And.intro @List.drop_succ_cons.{0}
 (And.intro @List.drop_zero.{0}
 @List.take_succ_cons.{0}))
 (And.intro (And.intro @List.take_zero.{0}
 @List.drop_nil.{0})
 (And.intro @List.take_nil.{0}
 @List.append_nil.{0}))))
 (And.intro (And.intro (And.intro @Nat.le_refl
 (And.intro @Option.getD_none.{0}
 @Bool.and_true))
 (And.intro (And.intro @Bool.true_and
 @Bool.and_false)
 (And.intro @Bool.and_self
 @Nat.lt_irrefl)))
 (And.intro (And.intro (And.intro @Nat.zero_add
 @List.contains_append.{0})
 (And.intro @Option.bind_none.{0, 0}
 @Option.bind_some.{0, 0}))
 (And.intro (And.intro @Bool.and_eq_true
 @decide_true)
 (And.intro @decide_false
 @Bool.not_eq_true')))))
 (And.intro (And.intro (And.intro (And.intro @List.take_length.{0}
 (And.intro @List.range_succ
 @List.range_zero))
 (And.intro (And.intro @Option.some.injEq.{0}
 @ne_eq.{0})
 (And.intro @not_false_eq_true
 @not_true_eq_false)))
 (And.intro (And.intro @List.all_cons.{0}
 (And.intro @List.all_nil.{0}
 @List.getElem?_toArray.{0}))
 (And.intro (And.intro @beqT
 @beqF)
 (And.intro @Bool.cond_true.{0}
 @Bool.cond_false.{0}))))
 (And.intro (And.intro (And.intro @or_self
 (And.intro @true_or
 @or_true))
 (And.intro (And.intro @or_false
 @false_or)
 (And.intro @ask_true
 @ask_false)))
 (And.intro (And.intro (And.intro @pickV_true
 @pickV_false)
 (And.intro @resolve_ptr
 @den_regT))
 (And.intro (And.intro @regG_no
 @regL_no)
 (And.intro @frameG_no
 @frameG_yes)))))))

end Go.AM

