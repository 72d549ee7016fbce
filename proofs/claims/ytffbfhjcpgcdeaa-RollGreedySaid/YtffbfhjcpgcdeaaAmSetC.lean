/- The lemmas of the first simp set, as one. No condition. -/
import Derived.Test.YtffbfhjcpgcdeaaAmR
set_option linter.unusedVariables false
set_option linter.unusedSimpArgs false

namespace Go.AM
open Go Go.RowKit

theorem so : type_of% (And.intro (And.intro (And.intro (And.intro (And.intro (And.intro @Option.getD_some.{0}
 (And.intro @List.cons_append.{0}
 @List.nil_append.{0}))
 (And.intro (And.intro @den_seq
 @den_region)
 (And.intro @den_block
 @den_skip)))
 (And.intro (And.intro @den_ret
 (And.intro @den_exit
 @List.getD_cons_zero.{0}))
 (And.intro (And.intro @List.getD_cons_succ.{0}
 @Bool.false_eq_true)
 (And.intro @if_false.{0}
 @List.contains_nil.{0}))))
 (And.intro (And.intro (And.intro @Bool.false_and
 (And.intro @normally_some
 @andThen_normal))
 (And.intro (And.intro @andThen_exit
 @andThen_ret)
 (And.intro @atBlock_normal
 @atBlock_exit)))
 (And.intro (And.intro (And.intro @atBlock_ret
 @after_normal)
 (And.intro @after_exit
 @after_ret))
 (And.intro (And.intro @outOfCall_some
 @atEnd_normal)
 (And.intro @atEnd_ret
 @allM_nil)))))
 (And.intro (And.intro (And.intro (And.intro @allM_cons
 (And.intro @resolve_int
 @resolve_bool))
 (And.intro (And.intro @resolve_lit
 @resolve_sl)
 (And.intro @resolve_fp
 @resolve_emp)))
 (And.intro (And.intro (And.intro @resolve_agg
 @resolve_tup)
 (And.intro @resolve_clo
 @resolve_own))
 (And.intro (And.intro @Option.map_some.{0, 0}
 @Option.map_none.{0, 0})
 (And.intro @List.length_cons.{0}
 @List.length_nil.{0}))))
 (And.intro (And.intro (And.intro @List.length_map.{0, 0}
 (And.intro @List.contains_cons.{0}
 @Bool.or_false))
 (And.intro (And.intro @Bool.false_or
 @Bool.or_true)
 (And.intro @Bool.true_or
 @beq_self_eq_true.{0})))
 (And.intro (And.intro (And.intro @List.map_cons.{0, 0}
 @List.map_nil.{0, 0})
 (And.intro @List.filter_cons.{0}
 @List.filter_nil.{0}))
 (And.intro (And.intro @List.flatMap_cons.{0, 0}
 @List.flatMap_nil.{0, 0})
 (And.intro @Bool.not_true
 @Bool.not_false))))))
 (And.intro (And.intro (And.intro (And.intro (And.intro @and_self
 (And.intro @and_true
 @true_and))
 (And.intro (And.intro @List.getElem?_cons_zero.{0}
 @List.getElem?_cons_succ.{0})
 (And.intro @List.getElem?_nil.{0}
 @List.drop_succ_cons.{0})))
 (And.intro (And.intro (And.intro @List.drop_zero.{0}
 @List.take_succ_cons.{0})
 (And.intro @List.take_zero.{0}
 @List.drop_nil.{0}))
 (And.intro (And.intro @List.take_nil.{0}
 @List.append_nil.{0})
 (And.intro @Nat.le_refl
 @Option.getD_none.{0}))))
 (And.intro (And.intro (And.intro @Bool.and_true
 (And.intro @Bool.true_and
 @Bool.and_false))
 (And.intro (And.intro @Bool.and_self
 @Nat.lt_irrefl)
 (And.intro @Nat.zero_add
 @List.contains_append.{0})))
 (And.intro (And.intro (And.intro @Option.bind_none.{0, 0}
 @Option.bind_some.{0, 0})
 (And.intro @Bool.and_eq_true
 @decide_true))
 (And.intro (And.intro @decide_false
 @Bool.not_eq_true')
 (And.intro @List.take_length.{0}
 @List.range_succ)))))
 (And.intro (And.intro (And.intro (And.intro @List.range_zero
 (And.intro @Option.some.injEq.{0}
 @ne_eq.{0}))
 (And.intro (And.intro @not_false_eq_true
 @not_true_eq_false)
 (And.intro @List.all_cons.{0}
 @List.all_nil.{0})))
 (And.intro (And.intro (And.intro @List.getElem?_toArray.{0}
 @beqT)
 (And.intro @beqF
 @Bool.cond_true.{0}))
 (And.intro (And.intro @Bool.cond_false.{0}
 @or_self)
 (And.intro @true_or
 @or_true))))
 (And.intro (And.intro (And.intro @or_false
 (And.intro @false_or
 @ask_true))
 (And.intro (And.intro @ask_false
 @pickV_true)
 (And.intro @pickV_false
 @resolve_ptr)))
 (And.intro (And.intro (And.intro @den_regT
 @regG_no)
 (And.intro @regL_no
 @frameG_no))
 (And.intro (And.intro @frameG_yes
 @regG_yes)
 (And.intro @freshG_no
 @freshG_yes))))))) :=
 (And.intro (And.intro (And.intro (And.intro (And.intro (And.intro @Option.getD_some.{0}
 (And.intro @List.cons_append.{0}
 @List.nil_append.{0}))
 (And.intro (And.intro @den_seq
 @den_region)
 (And.intro @den_block
 @den_skip)))
 (And.intro (And.intro @den_ret
 (And.intro @den_exit
 @List.getD_cons_zero.{0}))
 (And.intro (And.intro @List.getD_cons_succ.{0}
 @Bool.false_eq_true)
 (And.intro @if_false.{0}
 @List.contains_nil.{0}))))
 (And.intro (And.intro (And.intro @Bool.false_and
 (And.intro @normally_some
 @andThen_normal))
 (And.intro (And.intro @andThen_exit
 @andThen_ret)
 (And.intro @atBlock_normal
 @atBlock_exit)))
 (And.intro (And.intro (And.intro @atBlock_ret
 @after_normal)
 (And.intro @after_exit
 @after_ret))
 (And.intro (And.intro @outOfCall_some
 @atEnd_normal)
 (And.intro @atEnd_ret
 @allM_nil)))))
 (And.intro (And.intro (And.intro (And.intro @allM_cons
 (And.intro @resolve_int
 @resolve_bool))
 (And.intro (And.intro @resolve_lit
 @resolve_sl)
 (And.intro @resolve_fp
 @resolve_emp)))
 (And.intro (And.intro (And.intro @resolve_agg
 @resolve_tup)
 (And.intro @resolve_clo
 @resolve_own))
 (And.intro (And.intro @Option.map_some.{0, 0}
 @Option.map_none.{0, 0})
 (And.intro @List.length_cons.{0}
 @List.length_nil.{0}))))
 (And.intro (And.intro (And.intro @List.length_map.{0, 0}
 (And.intro @List.contains_cons.{0}
 @Bool.or_false))
 (And.intro (And.intro @Bool.false_or
 @Bool.or_true)
 (And.intro @Bool.true_or
 @beq_self_eq_true.{0})))
 (And.intro (And.intro (And.intro @List.map_cons.{0, 0}
 @List.map_nil.{0, 0})
 (And.intro @List.filter_cons.{0}
 @List.filter_nil.{0}))
 (And.intro (And.intro @List.flatMap_cons.{0, 0}
 @List.flatMap_nil.{0, 0})
 (And.intro @Bool.not_true
 @Bool.not_false))))))
 (And.intro (And.intro (And.intro (And.intro (And.intro @and_self
 (And.intro @and_true
 @true_and))
 (And.intro (And.intro @List.getElem?_cons_zero.{0}
 @List.getElem?_cons_succ.{0})
 (And.intro @List.getElem?_nil.{0}
 @List.drop_succ_cons.{0})))
 (And.intro (And.intro (And.intro @List.drop_zero.{0}
 @List.take_succ_cons.{0})
 (And.intro @List.take_zero.{0}
 @List.drop_nil.{0}))
 (And.intro (And.intro @List.take_nil.{0}
 @List.append_nil.{0})
 (And.intro @Nat.le_refl
 @Option.getD_none.{0}))))
 (And.intro (And.intro (And.intro @Bool.and_true
 (And.intro @Bool.true_and
 @Bool.and_false))
 (And.intro (And.intro @Bool.and_self
 @Nat.lt_irrefl)
 (And.intro @Nat.zero_add
 @List.contains_append.{0})))
 (And.intro (And.intro (And.intro @Option.bind_none.{0, 0}
 @Option.bind_some.{0, 0})
 (And.intro @Bool.and_eq_true
 @decide_true))
 (And.intro (And.intro @decide_false
 @Bool.not_eq_true')
 (And.intro @List.take_length.{0}
 @List.range_succ)))))
 (And.intro (And.intro (And.intro (And.intro @List.range_zero
 (And.intro @Option.some.injEq.{0}
 @ne_eq.{0}))
 (And.intro (And.intro @not_false_eq_true
 @not_true_eq_false)
 (And.intro @List.all_cons.{0}
 @List.all_nil.{0})))
 (And.intro (And.intro (And.intro @List.getElem?_toArray.{0}
 @beqT)
 (And.intro @beqF
 @Bool.cond_true.{0}))
 (And.intro (And.intro @Bool.cond_false.{0}
 @or_self)
 (And.intro @true_or
 @or_true))))
 (And.intro (And.intro (And.intro @or_false
 (And.intro @false_or
 @ask_true))
 (And.intro (And.intro @ask_false
 @pickV_true)
 (And.intro @pickV_false
 @resolve_ptr)))
 (And.intro (And.intro (And.intro @den_regT
 @regG_no)
 (And.intro @regL_no
 @frameG_no))
 (And.intro (And.intro @frameG_yes
 @regG_yes)
 (And.intro @freshG_no
 @freshG_yes)))))))

end Go.AM

