/- What is known of the code: printed. -/
import Derived.Test.YtbeiejanhoiodaaGreatProg
import Derived.Test.YtbeiejanhoiodaaGreatMB1
namespace Go.Wt
open Go.RowKit Go.Proofs
-- 187 watermeet/repl.Crash
def s187 : SCode := (.seq (.region [⟨some 3, .box 96 (.tmp 0), none⟩,
  ⟨some 4, .box 3 (.tmp 1), none⟩,
  ⟨some 5, .box 3 (.tmp 2), none⟩,
  ⟨some 6, .alloc 96 (.agg [(.v (.int .i64 0)), (.v (.int .i64 0)), (.v (.int .i64 0)), .e0, .e0]), none⟩,
  ⟨some 7, .mv (.const (.int .i64 0)), none⟩]) (.seq (.region [⟨some 8, .load 5 true (.tmp 3), none⟩,
  ⟨some 9, .load 1 false (.tmp 4), none⟩,
  ⟨some 10, .mkfn 286 [(.tmp 5), (.tmp 4)], none⟩,
  ⟨some 11, .call 285 [(.tmp 8), (.tmp 9), (.tmp 10)], none⟩,
  ⟨some 12, .ext (.tmp 11) 0, none⟩,
  ⟨some 13, .ext (.tmp 11) 1, none⟩,
  ⟨none, .store 5 (.tmp 6) (.tmp 12), none⟩,
  ⟨some 7, .mv (.tmp 13), none⟩]) .ret))
def x187 : XFn := ⟨s187, s187, 14, [.cell 6 5 true, .tmp 7], []⟩
theorem o187 : XOk Tryz.prog 187 x187 := ⟨Tryz.f187, Tryz.f187.body.getD .skip, Tryz.func187, by kernel_rfl, by kernel_rfl, by kernel_rfl, by kernel_rfl, by kernel_rfl, by kernel_rfl⟩
-- 188 strings.indexFunc
def s188_1 : SCode := (.seq (.region [⟨some 11, .nxt (.tmp 10), none⟩,
  ⟨some 12, .ext (.tmp 11) 0, none⟩]) (.seq (.cond (.tmp 12) .skip (.exit 0)) (.block 1 (.seq (.region [⟨some 13, .ext (.tmp 11) 1, none⟩,
  ⟨some 14, .ext (.tmp 11) 2, none⟩,
  ⟨some 7, .mv (.tmp 13), none⟩,
  ⟨some 8, .mv (.tmp 14), none⟩]) (.seq (.region [⟨some 15, .mv (.tmp 1), none⟩,
  ⟨some 16, .mv (.tmp 8), none⟩,
  ⟨some 17, .callv (.tmp 15) [(.tmp 16)], none⟩,
  ⟨some 18, .mv (.tmp 2), none⟩,
  ⟨some 19, .bin .eql 4 (.tmp 17) (.tmp 18), none⟩]) (.cond (.tmp 19) (.seq (.region [⟨some 20, .mv (.tmp 7), none⟩,
  ⟨some 6, .mv (.tmp 20), none⟩]) .ret) .skip))))))
def s188 : SCode := (.seq (.region [⟨some 6, .mv (.const (.int .i64 0)), none⟩]) (.seq (.seq (.region [⟨some 9, .mv (.tmp 0), none⟩,
  ⟨some 10, .rng (.tmp 9), none⟩]) (.block 0 (.loop s188_1))) (.seq (.region [⟨some 6, .mv (.const (.int .i64 (-1))), none⟩]) .ret)))
def x188 : XFn := ⟨s188, s188, 21, [.tmp 6], []⟩
theorem o188 : XOk Tryz.prog 188 x188 := ⟨Tryz.f188, Tryz.f188.body.getD .skip, Tryz.func188, by kernel_rfl, by kernel_rfl, by kernel_rfl, by kernel_rfl, by kernel_rfl, by kernel_rfl⟩
-- 189 watermeet/conf.name$1
def s189 : SCode := (.seq (.region [⟨some 2, .mv (.const (.bool false)), none⟩]) (.seq (.region [⟨some 3, .mv (.tmp 0), none⟩,
  ⟨some 4, .bin .lss 21 (.tmp 3) (.const (.int .i32 33)), none⟩,
  ⟨some 5, .mv (.tmp 4), none⟩,
  ⟨some 6, .mv (.tmp 0), some (5, false)⟩,
  ⟨some 7, .bin .gtr 21 (.tmp 6) (.const (.int .i32 126)), some (5, false)⟩,
  ⟨some 8, .pick (.tmp 5) (.const (.bool true)) (.tmp 7), none⟩,
  ⟨some 2, .mv (.tmp 8), none⟩]) .ret))
def x189 : XFn := ⟨s189, s189, 9, [.tmp 2], []⟩
theorem o189 : XOk Tryz.prog 189 x189 := ⟨Tryz.f189, Tryz.f189.body.getD .skip, Tryz.func189, by kernel_rfl, by kernel_rfl, by kernel_rfl, by kernel_rfl, by kernel_rfl, by kernel_rfl⟩
-- 190 cmp.Or[int]
def s190_1 : SCode := (.seq (.region [⟨some 9, .bin .lss 3 (.tmp 8) (.tmp 7), none⟩]) (.seq (.cond (.tmp 9) .skip (.exit 0)) (.seq (.block 1 (.seq (.region [⟨some 10, .eadr (.tmp 6) (.tmp 8) 1, none⟩,
  ⟨some 11, .load 1 false (.tmp 10), none⟩,
  ⟨some 5, .mv (.tmp 11), none⟩]) (.seq (.region [⟨some 12, .mv (.tmp 5), none⟩,
  ⟨some 13, .mv (.tmp 3), none⟩,
  ⟨some 14, .bin .neq 3 (.tmp 12) (.tmp 13), none⟩]) (.cond (.tmp 14) (.seq (.region [⟨some 15, .mv (.tmp 5), none⟩,
  ⟨some 2, .mv (.tmp 15), none⟩]) .ret) .skip)))) (.region [⟨some 16, .bin .add 3 (.tmp 8) (.const (.int .i64 1)), none⟩,
  ⟨some 8, .mv (.tmp 16), none⟩]))))
def s190 : SCode := (.seq (.region [⟨some 2, .mv (.const (.int .i64 0)), none⟩]) (.seq (.region [⟨some 3, .mv (.const (.int .i64 0)), none⟩]) (.seq (.seq (.region [⟨some 6, .mv (.tmp 0), none⟩,
  ⟨some 7, .len false (.tmp 6), none⟩,
  ⟨some 8, .mv (.const (.int .i64 0)), none⟩]) (.block 0 (.loop s190_1))) (.seq (.region [⟨some 17, .mv (.tmp 3), none⟩,
  ⟨some 2, .mv (.tmp 17), none⟩]) .ret))))
def x190 : XFn := ⟨s190, s190, 18, [.tmp 2], []⟩
theorem o190 : XOk Tryz.prog 190 x190 := ⟨Tryz.f190, Tryz.f190.body.getD .skip, Tryz.func190, by kernel_rfl, by kernel_rfl, by kernel_rfl, by kernel_rfl, by kernel_rfl, by kernel_rfl⟩
-- 191 slices.ContainsFunc[[]watermeet/api.Topic,watermeet/api.Topic]
def s191 : SCode := (.seq (.region [⟨some 4, .mv (.const (.bool false)), none⟩]) (.seq (.region [⟨some 5, .mv (.tmp 0), none⟩,
  ⟨some 6, .mv (.tmp 1), none⟩,
  ⟨some 7, .call 290 [(.tmp 5), (.tmp 6)], none⟩,
  ⟨some 8, .bin .geq 3 (.tmp 7) (.const (.int .i64 0)), none⟩,
  ⟨some 4, .mv (.tmp 8), none⟩]) .ret))
def x191 : XFn := ⟨s191, s191, 9, [.tmp 4], []⟩
theorem o191 : XOk Tryz.prog 191 x191 := ⟨Tryz.f191, Tryz.f191.body.getD .skip, Tryz.func191, by kernel_rfl, by kernel_rfl, by kernel_rfl, by kernel_rfl, by kernel_rfl, by kernel_rfl⟩
-- 193 cmp.Compare[int]
def s193 : SCode := (.seq (.region [⟨some 4, .mv (.const (.int .i64 0)), none⟩]) (.seq (.region [⟨some 7, .mv (.tmp 0), none⟩,
  ⟨some 8, .call 291 [(.tmp 7)], none⟩,
  ⟨some 5, .mv (.tmp 8), none⟩]) (.seq (.region [⟨some 9, .mv (.tmp 1), none⟩,
  ⟨some 10, .call 291 [(.tmp 9)], none⟩,
  ⟨some 6, .mv (.tmp 10), none⟩]) (.seq (.seq (.region [⟨some 11, .mv (.tmp 5), none⟩]) (.cond (.tmp 11) (.seq (.seq (.region [⟨some 12, .mv (.tmp 6), none⟩]) (.cond (.tmp 12) (.seq (.region [⟨some 4, .mv (.const (.int .i64 0)), none⟩]) .ret) .skip)) (.seq (.region [⟨some 4, .mv (.const (.int .i64 (-1))), none⟩]) .ret)) .skip)) (.seq (.seq (.region [⟨some 13, .mv (.tmp 6), none⟩]) (.cond (.tmp 13) (.seq (.region [⟨some 4, .mv (.const (.int .i64 1)), none⟩]) .ret) .skip)) (.seq (.seq (.region [⟨some 14, .mv (.tmp 0), none⟩,
  ⟨some 15, .mv (.tmp 1), none⟩,
  ⟨some 16, .bin .lss 3 (.tmp 14) (.tmp 15), none⟩]) (.cond (.tmp 16) (.seq (.region [⟨some 4, .mv (.const (.int .i64 (-1))), none⟩]) .ret) .skip)) (.seq (.seq (.region [⟨some 17, .mv (.tmp 0), none⟩,
  ⟨some 18, .mv (.tmp 1), none⟩,
  ⟨some 19, .bin .gtr 3 (.tmp 17) (.tmp 18), none⟩]) (.cond (.tmp 19) (.seq (.region [⟨some 4, .mv (.const (.int .i64 1)), none⟩]) .ret) .skip)) (.seq (.region [⟨some 4, .mv (.const (.int .i64 0)), none⟩]) .ret))))))))
def x193 : XFn := ⟨s193, s193, 20, [.tmp 4], []⟩
theorem o193 : XOk Tryz.prog 193 x193 := ⟨Tryz.f193, Tryz.f193.body.getD .skip, Tryz.func193, by kernel_rfl, by kernel_rfl, by kernel_rfl, by kernel_rfl, by kernel_rfl, by kernel_rfl⟩
-- 202 slices.IndexFunc[[]watermeet/api.Fault,watermeet/api.Fault]
def s202_1 : SCode := (.seq (.region [⟨some 9, .bin .lss 3 (.tmp 8) (.tmp 7), none⟩]) (.seq (.cond (.tmp 9) .skip (.exit 0)) (.seq (.block 1 (.seq (.region [⟨some 10, .mv (.tmp 8), none⟩,
  ⟨some 5, .mv (.tmp 10), none⟩]) (.seq (.region [⟨some 11, .mv (.tmp 1), none⟩,
  ⟨some 12, .mv (.tmp 0), none⟩,
  ⟨some 13, .mv (.tmp 5), none⟩,
  ⟨some 14, .eadr (.tmp 12) (.tmp 13) 2, none⟩,
  ⟨some 15, .load 2 true (.tmp 14), none⟩,
  ⟨some 16, .callv (.tmp 11) [(.tmp 15)], none⟩]) (.cond (.tmp 16) (.seq (.region [⟨some 17, .mv (.tmp 5), none⟩,
  ⟨some 4, .mv (.tmp 17), none⟩]) .ret) .skip)))) (.region [⟨some 18, .bin .add 3 (.tmp 8) (.const (.int .i64 1)), none⟩,
  ⟨some 8, .mv (.tmp 18), none⟩]))))
def s202 : SCode := (.seq (.region [⟨some 4, .mv (.const (.int .i64 0)), none⟩]) (.seq (.seq (.region [⟨some 6, .mv (.tmp 0), none⟩,
  ⟨some 7, .len false (.tmp 6), none⟩,
  ⟨some 8, .mv (.const (.int .i64 0)), none⟩]) (.block 0 (.loop s202_1))) (.seq (.region [⟨some 4, .mv (.const (.int .i64 (-1))), none⟩]) .ret)))
def x202 : XFn := ⟨s202, s202, 19, [.tmp 4], []⟩
theorem o202 : XOk Tryz.prog 202 x202 := ⟨Tryz.f202, Tryz.f202.body.getD .skip, Tryz.func202, by kernel_rfl, by kernel_rfl, by kernel_rfl, by kernel_rfl, by kernel_rfl, by kernel_rfl⟩
-- 204 slices.IndexFunc[[]watermeet/api.Slot,watermeet/api.Slot]
def s204_1 : SCode := (.seq (.region [⟨some 9, .bin .lss 3 (.tmp 8) (.tmp 7), none⟩]) (.seq (.cond (.tmp 9) .skip (.exit 0)) (.seq (.block 1 (.seq (.region [⟨some 10, .mv (.tmp 8), none⟩,
  ⟨some 5, .mv (.tmp 10), none⟩]) (.seq (.region [⟨some 11, .mv (.tmp 1), none⟩,
  ⟨some 12, .mv (.tmp 0), none⟩,
  ⟨some 13, .mv (.tmp 5), none⟩,
  ⟨some 14, .eadr (.tmp 12) (.tmp 13) 15, none⟩,
  ⟨some 15, .load 15 true (.tmp 14), none⟩,
  ⟨some 16, .callv (.tmp 11) [(.tmp 15)], none⟩]) (.cond (.tmp 16) (.seq (.region [⟨some 17, .mv (.tmp 5), none⟩,
  ⟨some 4, .mv (.tmp 17), none⟩]) .ret) .skip)))) (.region [⟨some 18, .bin .add 3 (.tmp 8) (.const (.int .i64 1)), none⟩,
  ⟨some 8, .mv (.tmp 18), none⟩]))))
def s204 : SCode := (.seq (.region [⟨some 4, .mv (.const (.int .i64 0)), none⟩]) (.seq (.seq (.region [⟨some 6, .mv (.tmp 0), none⟩,
  ⟨some 7, .len false (.tmp 6), none⟩,
  ⟨some 8, .mv (.const (.int .i64 0)), none⟩]) (.block 0 (.loop s204_1))) (.seq (.region [⟨some 4, .mv (.const (.int .i64 (-1))), none⟩]) .ret)))
def x204 : XFn := ⟨s204, s204, 19, [.tmp 4], []⟩
theorem o204 : XOk Tryz.prog 204 x204 := ⟨Tryz.f204, Tryz.f204.body.getD .skip, Tryz.func204, by kernel_rfl, by kernel_rfl, by kernel_rfl, by kernel_rfl, by kernel_rfl, by kernel_rfl⟩
-- 205 watermeet/conf.Topic
def s205 : SCode := (.seq (.region [⟨some 2, .box 44 (.tmp 0), none⟩,
  ⟨some 4, .alloc 169 (.agg [(.v (.string ⟨#[]⟩)), (.v (.int .i64 0)), (.v (.bool false)), (.v (.int .i64 0))]), none⟩,
  ⟨some 5, .mv (.const (.bool false)), none⟩]) (.seq (.seq (.region [⟨some 8, .load 5 true (.tmp 2), none⟩,
  ⟨some 9, .call 51 [(.tmp 8)], none⟩,
  ⟨some 10, .bin .neq 30 (.tmp 9) (.const (.int .i64 0)), none⟩]) (.cond (.tmp 10) (.seq (.region [⟨some 11, .build [(.v (.string ⟨#[]⟩)), (.v (.int .i64 0)), (.v (.bool false)), (.v (.int .i64 0))] [], none⟩,
  ⟨none, .store 4 (.tmp 4) (.tmp 11), none⟩,
  ⟨some 5, .mv (.const (.bool false)), none⟩]) .ret) .skip)) (.seq (.region [⟨some 13, .load 5 true (.tmp 2), none⟩,
  ⟨some 14, .mv (.tmp 1), none⟩,
  ⟨some 15, .call 262 [(.tmp 13), (.tmp 14)], none⟩,
  ⟨some 12, .mv (.tmp 15), none⟩,
  ⟨some 16, .ext (.tmp 12) 0, none⟩,
  ⟨some 17, .ext (.tmp 12) 1, none⟩,
  ⟨some 6, .mv (.tmp 16), none⟩,
  ⟨some 7, .mv (.tmp 17), none⟩]) (.seq (.seq (.region [⟨some 18, .mv (.tmp 7), none⟩,
  ⟨some 19, .un .not (.tmp 18), none⟩]) (.cond (.tmp 19) (.seq (.region [⟨some 20, .build [(.v (.string ⟨#[]⟩)), (.v (.int .i64 0)), (.v (.bool false)), (.v (.int .i64 0))] [], none⟩,
  ⟨none, .store 4 (.tmp 4) (.tmp 20), none⟩,
  ⟨some 5, .mv (.const (.bool false)), none⟩]) .ret) .skip)) (.seq (.region [⟨some 21, .fld (.tmp 2) 1, none⟩,
  ⟨some 22, .load 1 false (.tmp 21), none⟩,
  ⟨some 23, .mv (.tmp 6), none⟩,
  ⟨some 24, .eadr (.tmp 22) (.tmp 23) 4, none⟩,
  ⟨some 25, .load 4 true (.tmp 24), none⟩,
  ⟨none, .store 4 (.tmp 4) (.tmp 25), none⟩,
  ⟨some 5, .mv (.const (.bool true)), none⟩]) .ret)))))
def x205 : XFn := ⟨s205, s205, 26, [.cell 4 4 true, .tmp 5], []⟩
theorem o205 : XOk Tryz.prog 205 x205 := ⟨Tryz.f205, Tryz.f205.body.getD .skip, Tryz.func205, by kernel_rfl, by kernel_rfl, by kernel_rfl, by kernel_rfl, by kernel_rfl, by kernel_rfl⟩
-- 206 watermeet/repl.id
def s206 : SCode := (.seq (.region [⟨some 2, .mv (.const (.bool false)), none⟩]) (.seq (.region [⟨some 3, .mv (.tmp 0), none⟩,
  ⟨some 4, .bin .geq 3 (.tmp 3) (.const (.int .i64 0)), none⟩,
  ⟨some 5, .mv (.tmp 4), none⟩,
  ⟨some 6, .mv (.tmp 0), some (5, true)⟩,
  ⟨some 7, .bin .leq 3 (.tmp 6) (.const (.int .i64 1048576)), some (5, true)⟩,
  ⟨some 8, .pick (.tmp 5) (.tmp 7) (.const (.bool false)), none⟩,
  ⟨some 2, .mv (.tmp 8), none⟩]) .ret))
def x206 : XFn := ⟨s206, s206, 9, [.tmp 2], []⟩
theorem o206 : XOk Tryz.prog 206 x206 := ⟨Tryz.f206, Tryz.f206.body.getD .skip, Tryz.func206, by kernel_rfl, by kernel_rfl, by kernel_rfl, by kernel_rfl, by kernel_rfl, by kernel_rfl⟩
-- 207 watermeet/repl.rises
def s207_1 : SCode := (.seq (.region [⟨some 8, .bin .lss 3 (.tmp 7) (.tmp 6), none⟩]) (.seq (.cond (.tmp 8) .skip (.exit 0)) (.seq (.block 1 (.seq (.region [⟨some 9, .mv (.tmp 7), none⟩,
  ⟨some 10, .eadr (.tmp 5) (.tmp 7) 1, none⟩,
  ⟨some 11, .load 1 false (.tmp 10), none⟩,
  ⟨some 3, .mv (.tmp 9), none⟩,
  ⟨some 4, .mv (.tmp 11), none⟩]) (.seq (.region [⟨some 12, .mv (.tmp 4), none⟩,
  ⟨some 13, .call 206 [(.tmp 12)], none⟩,
  ⟨some 14, .un .not (.tmp 13), none⟩,
  ⟨some 15, .mv (.tmp 14), none⟩,
  ⟨some 16, .mv (.tmp 3), some (15, false)⟩,
  ⟨some 17, .bin .gtr 3 (.tmp 16) (.const (.int .i64 0)), some (15, false)⟩,
  ⟨some 18, .mv (.tmp 17), some (15, false)⟩,
  ⟨some 19, .mv (.tmp 0), some (18, true)⟩,
  ⟨some 20, .mv (.tmp 3), some (18, true)⟩,
  ⟨some 21, .bin .sub 3 (.tmp 20) (.const (.int .i64 1)), some (18, true)⟩,
  ⟨some 22, .eadr (.tmp 19) (.tmp 21) 1, some (18, true)⟩,
  ⟨some 23, .load 1 false (.tmp 22), some (18, true)⟩,
  ⟨some 24, .mv (.tmp 4), some (18, true)⟩,
  ⟨some 25, .bin .geq 3 (.tmp 23) (.tmp 24), some (18, true)⟩,
  ⟨some 26, .pick (.tmp 18) (.tmp 25) (.const (.bool false)), some (15, false)⟩,
  ⟨some 27, .pick (.tmp 15) (.const (.bool true)) (.tmp 26), none⟩]) (.cond (.tmp 27) (.seq (.region [⟨some 2, .mv (.const (.bool false)), none⟩]) .ret) .skip)))) (.region [⟨some 28, .bin .add 3 (.tmp 7) (.const (.int .i64 1)), none⟩,
  ⟨some 7, .mv (.tmp 28), none⟩]))))
def s207 : SCode := (.seq (.region [⟨some 2, .mv (.const (.bool false)), none⟩]) (.seq (.seq (.region [⟨some 5, .mv (.tmp 0), none⟩,
  ⟨some 6, .len false (.tmp 5), none⟩,
  ⟨some 7, .mv (.const (.int .i64 0)), none⟩]) (.block 0 (.loop s207_1))) (.seq (.region [⟨some 29, .mv (.tmp 0), none⟩,
  ⟨some 30, .len false (.tmp 29), none⟩,
  ⟨some 31, .bin .gtr 3 (.tmp 30) (.const (.int .i64 0)), none⟩,
  ⟨some 2, .mv (.tmp 31), none⟩]) .ret)))
def x207 : XFn := ⟨s207, s207, 32, [.tmp 2], []⟩
theorem o207 : XOk Tryz.prog 207 x207 := ⟨Tryz.f207, Tryz.f207.body.getD .skip, Tryz.func207, by kernel_rfl, by kernel_rfl, by kernel_rfl, by kernel_rfl, by kernel_rfl, by kernel_rfl⟩
-- 208 slices.ContainsFunc[[]watermeet/api.Rep,watermeet/api.Rep]
def s208 : SCode := (.seq (.region [⟨some 4, .mv (.const (.bool false)), none⟩]) (.seq (.region [⟨some 5, .mv (.tmp 0), none⟩,
  ⟨some 6, .mv (.tmp 1), none⟩,
  ⟨some 7, .call 294 [(.tmp 5), (.tmp 6)], none⟩,
  ⟨some 8, .bin .geq 3 (.tmp 7) (.const (.int .i64 0)), none⟩,
  ⟨some 4, .mv (.tmp 8), none⟩]) .ret))
def x208 : XFn := ⟨s208, s208, 9, [.tmp 4], []⟩
theorem o208 : XOk Tryz.prog 208 x208 := ⟨Tryz.f208, Tryz.f208.body.getD .skip, Tryz.func208, by kernel_rfl, by kernel_rfl, by kernel_rfl, by kernel_rfl, by kernel_rfl, by kernel_rfl⟩
-- 209 watermeet/repl.odd
def s209 : SCode := (.seq (.region [⟨some 1, .box 134 (.tmp 0), none⟩,
  ⟨some 2, .mv (.const (.bool false)), none⟩]) (.seq (.seq (.region [⟨some 4, .fld (.tmp 1) 0, none⟩,
  ⟨some 5, .load 1 false (.tmp 4), none⟩,
  ⟨some 6, .call 206 [(.tmp 5)], none⟩,
  ⟨some 7, .un .not (.tmp 6), none⟩,
  ⟨some 8, .mv (.tmp 7), none⟩,
  ⟨some 9, .fld (.tmp 1) 5, some (8, false)⟩,
  ⟨some 10, .load 1 false (.tmp 9), some (8, false)⟩,
  ⟨some 11, .call 295 [(.tmp 10)], some (8, false)⟩,
  ⟨some 12, .bin .neq 30 (.tmp 11) (.const (.int .i64 0)), some (8, false)⟩,
  ⟨some 13, .pick (.tmp 8) (.const (.bool true)) (.tmp 12), none⟩,
  ⟨some 14, .mv (.tmp 13), none⟩,
  ⟨some 15, .fld (.tmp 1) 6, some (14, false)⟩,
  ⟨some 16, .load 1 false (.tmp 15), some (14, false)⟩,
  ⟨some 17, .bin .lss 3 (.tmp 16) (.const (.int .i64 0)), some (14, false)⟩,
  ⟨some 18, .pick (.tmp 14) (.const (.bool true)) (.tmp 17), none⟩,
  ⟨some 19, .mv (.tmp 18), none⟩,
  ⟨some 20, .fld (.tmp 1) 6, some (19, false)⟩,
  ⟨some 21, .load 1 false (.tmp 20), some (19, false)⟩,
  ⟨some 22, .bin .gtr 3 (.tmp 21) (.const (.int .i64 1099511627777)), some (19, false)⟩,
  ⟨some 23, .pick (.tmp 19) (.const (.bool true)) (.tmp 22), none⟩]) (.cond (.tmp 23) (.seq (.region [⟨some 2, .mv (.const (.bool true)), none⟩]) .ret) .skip)) (.seq (.region [⟨some 24, .fld (.tmp 1) 2, none⟩,
  ⟨some 25, .load 3 true (.tmp 24), none⟩,
  ⟨some 3, .alloc 112 (.agg [(.v (.int .i64 0)), (.v (.int .i64 0)), .e0]), none⟩,
  ⟨none, .store 3 (.tmp 3) (.tmp 25), none⟩]) (.seq (.seq (.region [⟨some 26, .fld (.tmp 1) 1, none⟩,
  ⟨some 27, .load 1 false (.tmp 26), none⟩,
  ⟨some 28, .un .not (.tmp 27), none⟩]) (.cond (.tmp 28) (.region [⟨some 30, .load 3 true (.tmp 3), none⟩,
  ⟨some 31, .call 296 [(.tmp 30)], none⟩,
  ⟨some 29, .mv (.tmp 31), none⟩,
  ⟨some 32, .ext (.tmp 29) 0, none⟩,
  ⟨some 33, .ext (.tmp 29) 1, none⟩,
  ⟨none, .store 3 (.tmp 3) (.tmp 32), none⟩]) .skip)) (.seq (.drawn [⟨some 34, .load 3 true (.tmp 3), none⟩,
  ⟨some 35, .call 297 [(.tmp 34)], none⟩,
  ⟨some 36, .bin .neq 30 (.tmp 35) (.const (.int .i64 0)), none⟩,
  ⟨some 37, .mv (.tmp 36), none⟩,
  ⟨some 38, .fld (.tmp 1) 1, some (37, false)⟩,
  ⟨some 39, .load 1 false (.tmp 38), some (37, false)⟩,
  ⟨some 40, .mv (.tmp 39), some (37, false)⟩,
  ⟨some 41, .fld (.tmp 1) 6, some (40, true)⟩,
  ⟨some 42, .load 1 false (.tmp 41), some (40, true)⟩,
  ⟨some 43, .load 7 true (.tmp 1), some (40, true)⟩,
  ⟨some 44, .call 298 [(.tmp 43)], some (40, true)⟩,
  ⟨some 45, .bin .gtr 3 (.tmp 42) (.tmp 44), some (40, true)⟩,
  ⟨some 46, .pick (.tmp 40) (.tmp 45) (.const (.bool false)), some (37, false)⟩,
  ⟨some 47, .pick (.tmp 37) (.const (.bool true)) (.tmp 46), none⟩,
  ⟨some 2, .mv (.tmp 47), none⟩] [(1000000, 1000000), (8, 9), (8, 10)]) .ret)))))
def x209 : XFn := ⟨s209, s209, 48, [.tmp 2], []⟩
theorem o209 : XOk Tryz.prog 209 x209 := ⟨Tryz.f209, Tryz.f209.body.getD .skip, Tryz.func209, by kernel_rfl, by kernel_rfl, by kernel_rfl, by kernel_rfl, by kernel_rfl, by kernel_rfl⟩
-- 210 slices.ContainsFunc[[]int,int]
def s210 : SCode := (.seq (.region [⟨some 4, .mv (.const (.bool false)), none⟩]) (.seq (.region [⟨some 5, .mv (.tmp 0), none⟩,
  ⟨some 6, .mv (.tmp 1), none⟩,
  ⟨some 7, .call 299 [(.tmp 5), (.tmp 6)], none⟩,
  ⟨some 8, .bin .geq 3 (.tmp 7) (.const (.int .i64 0)), none⟩,
  ⟨some 4, .mv (.tmp 8), none⟩]) .ret))
def x210 : XFn := ⟨s210, s210, 9, [.tmp 4], []⟩
theorem o210 : XOk Tryz.prog 210 x210 := ⟨Tryz.f210, Tryz.f210.body.getD .skip, Tryz.func210, by kernel_rfl, by kernel_rfl, by kernel_rfl, by kernel_rfl, by kernel_rfl, by kernel_rfl⟩
-- 211 watermeet/repl.Check$1
def s211 : SCode := (.seq (.region [⟨some 3, .mv (.const (.bool false)), none⟩]) (.seq (.region [⟨some 4, .load 1 false (.tmp 1), none⟩,
  ⟨some 5, .mv (.tmp 0), none⟩,
  ⟨some 6, .call 212 [(.tmp 4), (.tmp 5)], none⟩,
  ⟨some 7, .un .not (.tmp 6), none⟩,
  ⟨some 3, .mv (.tmp 7), none⟩]) .ret))
def x211 : XFn := ⟨s211, s211, 8, [.tmp 3], []⟩
theorem o211 : XOk Tryz.prog 211 x211 := ⟨Tryz.f211, Tryz.f211.body.getD .skip, Tryz.func211, by kernel_rfl, by kernel_rfl, by kernel_rfl, by kernel_rfl, by kernel_rfl, by kernel_rfl⟩
-- 212 slices.Contains[[]int,int]
def s212 : SCode := (.seq (.region [⟨some 4, .mv (.const (.bool false)), none⟩]) (.seq (.region [⟨some 5, .mv (.tmp 0), none⟩,
  ⟨some 6, .mv (.tmp 1), none⟩,
  ⟨some 7, .call 213 [(.tmp 5), (.tmp 6)], none⟩,
  ⟨some 8, .bin .geq 3 (.tmp 7) (.const (.int .i64 0)), none⟩,
  ⟨some 4, .mv (.tmp 8), none⟩]) .ret))
def x212 : XFn := ⟨s212, s212, 9, [.tmp 4], []⟩
theorem o212 : XOk Tryz.prog 212 x212 := ⟨Tryz.f212, Tryz.f212.body.getD .skip, Tryz.func212, by kernel_rfl, by kernel_rfl, by kernel_rfl, by kernel_rfl, by kernel_rfl, by kernel_rfl⟩
-- 213 slices.Index[[]int,int]
def s213_1 : SCode := (.seq (.region [⟨some 9, .bin .lss 3 (.tmp 8) (.tmp 7), none⟩]) (.seq (.cond (.tmp 9) .skip (.exit 0)) (.seq (.block 1 (.seq (.region [⟨some 10, .mv (.tmp 8), none⟩,
  ⟨some 5, .mv (.tmp 10), none⟩]) (.seq (.region [⟨some 11, .mv (.tmp 1), none⟩,
  ⟨some 12, .mv (.tmp 0), none⟩,
  ⟨some 13, .mv (.tmp 5), none⟩,
  ⟨some 14, .eadr (.tmp 12) (.tmp 13) 1, none⟩,
  ⟨some 15, .load 1 false (.tmp 14), none⟩,
  ⟨some 16, .bin .eql 3 (.tmp 11) (.tmp 15), none⟩]) (.cond (.tmp 16) (.seq (.region [⟨some 17, .mv (.tmp 5), none⟩,
  ⟨some 4, .mv (.tmp 17), none⟩]) .ret) .skip)))) (.region [⟨some 18, .bin .add 3 (.tmp 8) (.const (.int .i64 1)), none⟩,
  ⟨some 8, .mv (.tmp 18), none⟩]))))
def s213 : SCode := (.seq (.region [⟨some 4, .mv (.const (.int .i64 0)), none⟩]) (.seq (.seq (.region [⟨some 6, .mv (.tmp 0), none⟩,
  ⟨some 7, .len false (.tmp 6), none⟩,
  ⟨some 8, .mv (.const (.int .i64 0)), none⟩]) (.block 0 (.loop s213_1))) (.seq (.region [⟨some 4, .mv (.const (.int .i64 (-1))), none⟩]) .ret)))
def x213 : XFn := ⟨s213, s213, 19, [.tmp 4], []⟩
theorem o213 : XOk Tryz.prog 213 x213 := ⟨Tryz.f213, Tryz.f213.body.getD .skip, Tryz.func213, by kernel_rfl, by kernel_rfl, by kernel_rfl, by kernel_rfl, by kernel_rfl, by kernel_rfl⟩
-- 214 watermeet/manifest.beyond
def s214 : SCode := (.seq (.region [⟨some 2, .mv (.const (.bool false)), none⟩]) (.seq (.region [⟨some 3, .mv (.tmp 0), none⟩,
  ⟨some 4, .bin .lss 3 (.tmp 3) (.const (.int .i64 0)), none⟩,
  ⟨some 5, .mv (.tmp 4), none⟩,
  ⟨some 6, .mv (.tmp 0), some (5, false)⟩,
  ⟨some 7, .bin .gtr 3 (.tmp 6) (.const (.int .i64 1099511627776)), some (5, false)⟩,
  ⟨some 8, .pick (.tmp 5) (.const (.bool true)) (.tmp 7), none⟩,
  ⟨some 2, .mv (.tmp 8), none⟩]) .ret))
def x214 : XFn := ⟨s214, s214, 9, [.tmp 2], []⟩
theorem o214 : XOk Tryz.prog 214 x214 := ⟨Tryz.f214, Tryz.f214.body.getD .skip, Tryz.func214, by kernel_rfl, by kernel_rfl, by kernel_rfl, by kernel_rfl, by kernel_rfl, by kernel_rfl⟩
-- 217 slices.ContainsFunc[[]watermeet/api.Gone,watermeet/api.Gone]
def s217 : SCode := (.seq (.region [⟨some 4, .mv (.const (.bool false)), none⟩]) (.seq (.region [⟨some 5, .mv (.tmp 0), none⟩,
  ⟨some 6, .mv (.tmp 1), none⟩,
  ⟨some 7, .call 300 [(.tmp 5), (.tmp 6)], none⟩,
  ⟨some 8, .bin .geq 3 (.tmp 7) (.const (.int .i64 0)), none⟩,
  ⟨some 4, .mv (.tmp 8), none⟩]) .ret))
def x217 : XFn := ⟨s217, s217, 9, [.tmp 4], []⟩
theorem o217 : XOk Tryz.prog 217 x217 := ⟨Tryz.f217, Tryz.f217.body.getD .skip, Tryz.func217, by kernel_rfl, by kernel_rfl, by kernel_rfl, by kernel_rfl, by kernel_rfl, by kernel_rfl⟩
-- 219 watermeet/txns.rises
def s219 : SCode := (.seq (.region [⟨some 2, .alloc 4 (.v (.bool false)), none⟩]) (.seq (.region [⟨some 3, .alloc 3 (.v (.int .i64 0)), none⟩,
  ⟨none, .store 1 (.tmp 3) (.const (.int .i64 (-1))), none⟩]) (.seq (.seq (.region [⟨some 5, .mv (.tmp 0), none⟩]) (.block 0 (.rangef (.tmp 5) [6] (.region [⟨some 4, .mv (.tmp 6), none⟩]) (.block 1 (.seq (.seq (.region [⟨some 7, .mv (.tmp 4), none⟩,
  ⟨some 8, .load 1 false (.tmp 3), none⟩,
  ⟨some 9, .bin .leq 3 (.tmp 7) (.tmp 8), none⟩]) (.cond (.tmp 9) (.seq (.region [⟨none, .store 1 (.tmp 2) (.const (.bool false)), none⟩]) .ret) .skip)) (.region [⟨some 10, .mv (.tmp 4), none⟩,
  ⟨none, .store 1 (.tmp 3) (.tmp 10), none⟩])))))) (.seq (.region [⟨none, .store 1 (.tmp 2) (.const (.bool true)), none⟩]) .ret))))
def i219 : SCode := (.seq (.region [⟨some 2, .alloc 4 (.v (.bool false)), none⟩]) (.seq (.region [⟨some 3, .alloc 3 (.v (.int .i64 0)), none⟩,
  ⟨none, .store 1 (.tmp 3) (.const (.int .i64 (-1))), none⟩]) (.seq (.seq (.region [⟨some 5, .mv (.tmp 0), none⟩]) (.block 0 .stuck)) (.seq (.region [⟨none, .store 1 (.tmp 2) (.const (.bool true)), none⟩]) .ret))))
def x219 : XFn := ⟨s219, i219, 11, [.cell 2 1 false], []⟩
theorem o219 : XOk Tryz.prog 219 x219 := ⟨Tryz.f219, Tryz.f219.body.getD .skip, Tryz.func219, by kernel_rfl, by kernel_rfl, by kernel_rfl, by kernel_rfl, by kernel_rfl, by kernel_rfl⟩
-- 220 watermeet/txns.lasts
def s220 : SCode := (.seq (.region [⟨some 1, .box 101 (.tmp 0), none⟩,
  ⟨some 2, .mv (.const .nilFunc), none⟩]) (.seq (.region [⟨some 3, .mkfn 301 [(.tmp 1)], none⟩,
  ⟨some 2, .mv (.tmp 3), none⟩]) .ret))
def x220 : XFn := ⟨s220, s220, 4, [.tmp 2], []⟩
theorem o220 : XOk Tryz.prog 220 x220 := ⟨Tryz.f220, Tryz.f220.body.getD .skip, Tryz.func220, by kernel_rfl, by kernel_rfl, by kernel_rfl, by kernel_rfl, by kernel_rfl, by kernel_rfl⟩
-- 222 cmp.isNaN[string]
def s222 : SCode := (.seq (.region [⟨some 2, .mv (.const (.bool false)), none⟩]) (.seq (.region [⟨some 3, .mv (.tmp 0), none⟩,
  ⟨some 4, .mv (.tmp 0), none⟩,
  ⟨some 5, .bin .neq 9 (.tmp 3) (.tmp 4), none⟩,
  ⟨some 2, .mv (.tmp 5), none⟩]) .ret))
def x222 : XFn := ⟨s222, s222, 6, [.tmp 2], []⟩
theorem o222 : XOk Tryz.prog 222 x222 := ⟨Tryz.f222, Tryz.f222.body.getD .skip, Tryz.func222, by kernel_rfl, by kernel_rfl, by kernel_rfl, by kernel_rfl, by kernel_rfl, by kernel_rfl⟩
-- 223 slices.IndexFunc[[]watermeet/api.Group,watermeet/api.Group]
def s223_1 : SCode := (.seq (.region [⟨some 9, .bin .lss 3 (.tmp 8) (.tmp 7), none⟩]) (.seq (.cond (.tmp 9) .skip (.exit 0)) (.seq (.block 1 (.seq (.region [⟨some 10, .mv (.tmp 8), none⟩,
  ⟨some 5, .mv (.tmp 10), none⟩]) (.seq (.region [⟨some 11, .mv (.tmp 1), none⟩,
  ⟨some 12, .mv (.tmp 0), none⟩,
  ⟨some 13, .mv (.tmp 5), none⟩,
  ⟨some 14, .eadr (.tmp 12) (.tmp 13) 4, none⟩,
  ⟨some 15, .load 4 true (.tmp 14), none⟩,
  ⟨some 16, .callv (.tmp 11) [(.tmp 15)], none⟩]) (.cond (.tmp 16) (.seq (.region [⟨some 17, .mv (.tmp 5), none⟩,
  ⟨some 4, .mv (.tmp 17), none⟩]) .ret) .skip)))) (.region [⟨some 18, .bin .add 3 (.tmp 8) (.const (.int .i64 1)), none⟩,
  ⟨some 8, .mv (.tmp 18), none⟩]))))
def s223 : SCode := (.seq (.region [⟨some 4, .mv (.const (.int .i64 0)), none⟩]) (.seq (.seq (.region [⟨some 6, .mv (.tmp 0), none⟩,
  ⟨some 7, .len false (.tmp 6), none⟩,
  ⟨some 8, .mv (.const (.int .i64 0)), none⟩]) (.block 0 (.loop s223_1))) (.seq (.region [⟨some 4, .mv (.const (.int .i64 (-1))), none⟩]) .ret)))
def x223 : XFn := ⟨s223, s223, 19, [.tmp 4], []⟩
theorem o223 : XOk Tryz.prog 223 x223 := ⟨Tryz.f223, Tryz.f223.body.getD .skip, Tryz.func223, by kernel_rfl, by kernel_rfl, by kernel_rfl, by kernel_rfl, by kernel_rfl, by kernel_rfl⟩
-- 232 slices.IndexFunc[[]watermeet/api.Bucket,watermeet/api.Bucket]
def s232_1 : SCode := (.seq (.region [⟨some 9, .bin .lss 3 (.tmp 8) (.tmp 7), none⟩]) (.seq (.cond (.tmp 9) .skip (.exit 0)) (.seq (.block 1 (.seq (.region [⟨some 10, .mv (.tmp 8), none⟩,
  ⟨some 5, .mv (.tmp 10), none⟩]) (.seq (.region [⟨some 11, .mv (.tmp 1), none⟩,
  ⟨some 12, .mv (.tmp 0), none⟩,
  ⟨some 13, .mv (.tmp 5), none⟩,
  ⟨some 14, .eadr (.tmp 12) (.tmp 13) 5, none⟩,
  ⟨some 15, .load 5 true (.tmp 14), none⟩,
  ⟨some 16, .callv (.tmp 11) [(.tmp 15)], none⟩]) (.cond (.tmp 16) (.seq (.region [⟨some 17, .mv (.tmp 5), none⟩,
  ⟨some 4, .mv (.tmp 17), none⟩]) .ret) .skip)))) (.region [⟨some 18, .bin .add 3 (.tmp 8) (.const (.int .i64 1)), none⟩,
  ⟨some 8, .mv (.tmp 18), none⟩]))))
def s232 : SCode := (.seq (.region [⟨some 4, .mv (.const (.int .i64 0)), none⟩]) (.seq (.seq (.region [⟨some 6, .mv (.tmp 0), none⟩,
  ⟨some 7, .len false (.tmp 6), none⟩,
  ⟨some 8, .mv (.const (.int .i64 0)), none⟩]) (.block 0 (.loop s232_1))) (.seq (.region [⟨some 4, .mv (.const (.int .i64 (-1))), none⟩]) .ret)))
def x232 : XFn := ⟨s232, s232, 19, [.tmp 4], []⟩
theorem o232 : XOk Tryz.prog 232 x232 := ⟨Tryz.f232, Tryz.f232.body.getD .skip, Tryz.func232, by kernel_rfl, by kernel_rfl, by kernel_rfl, by kernel_rfl, by kernel_rfl, by kernel_rfl⟩
-- 233 slices.IndexFunc[[]watermeet/api.Mark,watermeet/api.Mark]
def s233_1 : SCode := (.seq (.region [⟨some 9, .bin .lss 3 (.tmp 8) (.tmp 7), none⟩]) (.seq (.cond (.tmp 9) .skip (.exit 0)) (.seq (.block 1 (.seq (.region [⟨some 10, .mv (.tmp 8), none⟩,
  ⟨some 5, .mv (.tmp 10), none⟩]) (.seq (.region [⟨some 11, .mv (.tmp 1), none⟩,
  ⟨some 12, .mv (.tmp 0), none⟩,
  ⟨some 13, .mv (.tmp 5), none⟩,
  ⟨some 14, .eadr (.tmp 12) (.tmp 13) 4, none⟩,
  ⟨some 15, .load 4 true (.tmp 14), none⟩,
  ⟨some 16, .callv (.tmp 11) [(.tmp 15)], none⟩]) (.cond (.tmp 16) (.seq (.region [⟨some 17, .mv (.tmp 5), none⟩,
  ⟨some 4, .mv (.tmp 17), none⟩]) .ret) .skip)))) (.region [⟨some 18, .bin .add 3 (.tmp 8) (.const (.int .i64 1)), none⟩,
  ⟨some 8, .mv (.tmp 18), none⟩]))))
def s233 : SCode := (.seq (.region [⟨some 4, .mv (.const (.int .i64 0)), none⟩]) (.seq (.seq (.region [⟨some 6, .mv (.tmp 0), none⟩,
  ⟨some 7, .len false (.tmp 6), none⟩,
  ⟨some 8, .mv (.const (.int .i64 0)), none⟩]) (.block 0 (.loop s233_1))) (.seq (.region [⟨some 4, .mv (.const (.int .i64 (-1))), none⟩]) .ret)))
def x233 : XFn := ⟨s233, s233, 19, [.tmp 4], []⟩
theorem o233 : XOk Tryz.prog 233 x233 := ⟨Tryz.f233, Tryz.f233.body.getD .skip, Tryz.func233, by kernel_rfl, by kernel_rfl, by kernel_rfl, by kernel_rfl, by kernel_rfl, by kernel_rfl⟩
-- 234 slices.BinarySearchFunc[[]watermeet/api.Rep,watermeet/api.Rep,int]
def s234_1 : SCode := (.seq (.seq (.region [⟨some 15, .mv (.tmp 9), none⟩,
  ⟨some 16, .mv (.tmp 10), none⟩,
  ⟨some 17, .bin .lss 3 (.tmp 15) (.tmp 16), none⟩]) (.cond (.tmp 17) .skip (.exit 0))) (.block 1 (.seq (.region [⟨some 18, .mv (.tmp 9), none⟩,
  ⟨some 19, .mv (.tmp 10), none⟩,
  ⟨some 20, .bin .add 3 (.tmp 18) (.tmp 19), none⟩,
  ⟨some 21, .conv .u64 (.tmp 20), none⟩,
  ⟨some 22, .bin .shr 190 (.tmp 21) (.const (.int .u64 1)), none⟩,
  ⟨some 23, .conv .i64 (.tmp 22), none⟩,
  ⟨some 11, .mv (.tmp 23), none⟩]) (.seq (.region [⟨some 24, .mv (.tmp 2), none⟩,
  ⟨some 25, .mv (.tmp 0), none⟩,
  ⟨some 26, .mv (.tmp 11), none⟩,
  ⟨some 27, .eadr (.tmp 25) (.tmp 26) 7, none⟩,
  ⟨some 28, .load 7 true (.tmp 27), none⟩,
  ⟨some 29, .mv (.tmp 1), none⟩,
  ⟨some 30, .callv (.tmp 24) [(.tmp 28), (.tmp 29)], none⟩,
  ⟨some 31, .bin .lss 3 (.tmp 30) (.const (.int .i64 0)), none⟩]) (.cond (.tmp 31) (.region [⟨some 32, .mv (.tmp 11), none⟩,
  ⟨some 33, .bin .add 3 (.tmp 32) (.const (.int .i64 1)), none⟩,
  ⟨some 9, .mv (.tmp 33), none⟩]) (.region [⟨some 34, .mv (.tmp 11), none⟩,
  ⟨some 10, .mv (.tmp 34), none⟩]))))))
def s234 : SCode := (.seq (.region [⟨some 6, .mv (.const (.int .i64 0)), none⟩,
  ⟨some 7, .mv (.const (.bool false)), none⟩]) (.seq (.region [⟨some 12, .mv (.tmp 0), none⟩,
  ⟨some 13, .len false (.tmp 12), none⟩,
  ⟨some 8, .mv (.tmp 13), none⟩]) (.seq (.region [⟨some 14, .mv (.tmp 8), none⟩,
  ⟨some 9, .mv (.const (.int .i64 0)), none⟩,
  ⟨some 10, .mv (.tmp 14), none⟩]) (.seq (.block 0 (.loop s234_1)) (.seq (.region [⟨some 35, .mv (.tmp 9), none⟩,
  ⟨some 36, .mv (.tmp 9), none⟩,
  ⟨some 37, .mv (.tmp 8), none⟩,
  ⟨some 38, .bin .lss 3 (.tmp 36) (.tmp 37), none⟩,
  ⟨some 39, .mv (.tmp 38), none⟩,
  ⟨some 40, .mv (.tmp 2), some (39, true)⟩,
  ⟨some 41, .mv (.tmp 0), some (39, true)⟩,
  ⟨some 42, .mv (.tmp 9), some (39, true)⟩,
  ⟨some 43, .eadr (.tmp 41) (.tmp 42) 7, some (39, true)⟩,
  ⟨some 44, .load 7 true (.tmp 43), some (39, true)⟩,
  ⟨some 45, .mv (.tmp 1), some (39, true)⟩,
  ⟨some 46, .callv (.tmp 40) [(.tmp 44), (.tmp 45)], some (39, true)⟩,
  ⟨some 47, .bin .eql 3 (.tmp 46) (.const (.int .i64 0)), some (39, true)⟩,
  ⟨some 48, .pick (.tmp 39) (.tmp 47) (.const (.bool false)), none⟩,
  ⟨some 6, .mv (.tmp 35), none⟩,
  ⟨some 7, .mv (.tmp 48), none⟩]) .ret)))))
def x234 : XFn := ⟨s234, s234, 49, [.tmp 6, .tmp 7], []⟩
theorem o234 : XOk Tryz.prog 234 x234 := ⟨Tryz.f234, Tryz.f234.body.getD .skip, Tryz.func234, by kernel_rfl, by kernel_rfl, by kernel_rfl, by kernel_rfl, by kernel_rfl, by kernel_rfl⟩
-- 235 watermeet/repl.byId
def s235 : SCode := (.seq (.region [⟨some 2, .box 134 (.tmp 0), none⟩,
  ⟨some 4, .mv (.const (.int .i64 0)), none⟩]) (.seq (.region [⟨some 5, .fld (.tmp 2) 0, none⟩,
  ⟨some 6, .load 1 false (.tmp 5), none⟩,
  ⟨some 7, .mv (.tmp 1), none⟩,
  ⟨some 8, .bin .sub 3 (.tmp 6) (.tmp 7), none⟩,
  ⟨some 4, .mv (.tmp 8), none⟩]) .ret))
def x235 : XFn := ⟨s235, s235, 9, [.tmp 4], []⟩
theorem o235 : XOk Tryz.prog 235 x235 := ⟨Tryz.f235, Tryz.f235.body.getD .skip, Tryz.func235, by kernel_rfl, by kernel_rfl, by kernel_rfl, by kernel_rfl, by kernel_rfl, by kernel_rfl⟩
-- 236 watermeet/tier.there$1
def s236_1 : SCode := (.seq (.region [⟨some 9, .bin .lss 3 (.tmp 8) (.tmp 7), none⟩]) (.seq (.cond (.tmp 9) .skip (.exit 0)) (.seq (.block 1 (.seq (.region [⟨some 10, .eadr (.tmp 6) (.tmp 8) 6, none⟩,
  ⟨some 11, .load 6 true (.tmp 10), none⟩,
  ⟨some 4, .alloc 177 (.agg [(.v (.int .i64 0)), (.v (.int .i64 0)), (.v (.int .i64 0)), (.v (.int .i64 0)), (.v (.int .u32 0)), (.v (.int .i64 0))]), none⟩,
  ⟨none, .store 6 (.tmp 4) (.tmp 11), none⟩]) (.seq (.region [⟨some 12, .fld (.tmp 4) 5, none⟩,
  ⟨some 13, .load 1 false (.tmp 12), none⟩,
  ⟨some 14, .bin .eql 3 (.tmp 13) (.const (.int .i64 2)), none⟩,
  ⟨some 15, .mv (.tmp 14), none⟩,
  ⟨some 16, .mv (.tmp 0), some (15, true)⟩,
  ⟨some 17, .load 6 true (.tmp 4), some (15, true)⟩,
  ⟨some 18, .callv (.tmp 16) [(.tmp 17)], some (15, true)⟩,
  ⟨some 19, .un .not (.tmp 18), some (15, true)⟩,
  ⟨some 20, .pick (.tmp 15) (.tmp 19) (.const (.bool false)), none⟩]) (.cond (.tmp 20) .ret .skip)))) (.region [⟨some 21, .bin .add 3 (.tmp 8) (.const (.int .i64 1)), none⟩,
  ⟨some 8, .mv (.tmp 21), none⟩]))))
def s236 : SCode := (.seq (.region [⟨some 5, .fld (.tmp 1) 2, none⟩,
  ⟨some 6, .load 1 false (.tmp 5), none⟩,
  ⟨some 7, .len false (.tmp 6), none⟩,
  ⟨some 8, .mv (.const (.int .i64 0)), none⟩]) (.block 0 (.loop s236_1)))
def x236 : XFn := ⟨s236, s236, 22, [], []⟩
theorem o236 : XOk Tryz.prog 236 x236 := ⟨Tryz.f236, Tryz.f236.body.getD .skip, Tryz.func236, by kernel_rfl, by kernel_rfl, by kernel_rfl, by kernel_rfl, by kernel_rfl, by kernel_rfl⟩
-- 257 watermeet/conf.use
def s257 : SCode := (.seq (.region [⟨some 2, .alloc 340 (.agg [(.v (.bool false)), (.v (.bool false)), (.v (.bool false)), (.v (.bool false)), (.v (.bool false))]), none⟩,
  ⟨some 3, .mv (.const (.bool false)), none⟩]) (.seq (.seq (.region [⟨some 4, .mv (.tmp 0), none⟩]) (.block 0 (.seq (.region [⟨some 6, .bin .eql 3 (.tmp 4) (.const (.int .i64 1)), none⟩,
  ⟨some 5, .mv (.tmp 6), none⟩]) (.cond (.tmp 5) (.seq (.region [⟨some 7, .build [(.v (.bool false)), (.v (.bool false)), (.v (.bool false)), (.v (.bool false)), (.v (.bool false))] [(0, 1, (.const (.bool true))), (2, 1, (.const (.bool true))), (3, 1, (.const (.bool true))), (4, 1, (.const (.bool true)))], none⟩,
  ⟨none, .store 5 (.tmp 2) (.tmp 7), none⟩,
  ⟨some 3, .mv (.const (.bool true)), none⟩]) .ret) (.seq (.region [⟨some 9, .bin .eql 3 (.tmp 4) (.const (.int .i64 2)), none⟩,
  ⟨some 8, .mv (.tmp 9), none⟩]) (.cond (.tmp 8) (.seq (.region [⟨some 10, .build [(.v (.bool false)), (.v (.bool false)), (.v (.bool false)), (.v (.bool false)), (.v (.bool false))] [(0, 1, (.const (.bool true)))], none⟩,
  ⟨none, .store 5 (.tmp 2) (.tmp 10), none⟩,
  ⟨some 3, .mv (.const (.bool true)), none⟩]) .ret) (.seq (.region [⟨some 12, .bin .eql 3 (.tmp 4) (.const (.int .i64 3)), none⟩,
  ⟨some 11, .mv (.tmp 12), none⟩]) (.cond (.tmp 11) (.seq (.region [⟨some 13, .build [(.v (.bool false)), (.v (.bool false)), (.v (.bool false)), (.v (.bool false)), (.v (.bool false))] [(0, 1, (.const (.bool true))), (2, 1, (.const (.bool true)))], none⟩,
  ⟨none, .store 5 (.tmp 2) (.tmp 13), none⟩,
  ⟨some 3, .mv (.const (.bool true)), none⟩]) .ret) (.seq (.region [⟨some 15, .bin .eql 3 (.tmp 4) (.const (.int .i64 4)), none⟩,
  ⟨some 14, .mv (.tmp 15), none⟩]) (.cond (.tmp 14) (.seq (.region [⟨some 16, .build [(.v (.bool false)), (.v (.bool false)), (.v (.bool false)), (.v (.bool false)), (.v (.bool false))] [(0, 1, (.const (.bool true))), (4, 1, (.const (.bool true)))], none⟩,
  ⟨none, .store 5 (.tmp 2) (.tmp 16), none⟩,
  ⟨some 3, .mv (.const (.bool true)), none⟩]) .ret) (.seq (.region [⟨some 18, .bin .eql 3 (.tmp 4) (.const (.int .i64 5)), none⟩,
  ⟨some 17, .mv (.tmp 18), none⟩]) (.cond (.tmp 17) (.seq (.region [⟨some 19, .build [(.v (.bool false)), (.v (.bool false)), (.v (.bool false)), (.v (.bool false)), (.v (.bool false))] [(0, 1, (.const (.bool true))), (1, 1, (.const (.bool true))), (2, 1, (.const (.bool true)))], none⟩,
  ⟨none, .store 5 (.tmp 2) (.tmp 19), none⟩,
  ⟨some 3, .mv (.const (.bool true)), none⟩]) .ret) (.seq (.region [⟨some 21, .bin .eql 3 (.tmp 4) (.const (.int .i64 6)), none⟩,
  ⟨some 20, .mv (.tmp 21), none⟩]) (.cond (.tmp 20) (.seq (.region [⟨some 22, .build [(.v (.bool false)), (.v (.bool false)), (.v (.bool false)), (.v (.bool false)), (.v (.bool false))] [(0, 1, (.const (.bool true))), (2, 1, (.const (.bool true))), (3, 1, (.const (.bool true)))], none⟩,
  ⟨none, .store 5 (.tmp 2) (.tmp 22), none⟩,
  ⟨some 3, .mv (.const (.bool true)), none⟩]) .ret) (.seq (.seq (.region [⟨some 24, .bin .eql 3 (.tmp 4) (.const (.int .i64 7)), none⟩,
  ⟨some 23, .mv (.tmp 24), none⟩]) (.cond (.tmp 23) .skip (.region [⟨some 25, .bin .eql 3 (.tmp 4) (.const (.int .i64 8)), none⟩,
  ⟨some 23, .mv (.tmp 25), none⟩]))) (.cond (.tmp 23) (.seq (.region [⟨some 26, .build [(.v (.bool false)), (.v (.bool false)), (.v (.bool false)), (.v (.bool false)), (.v (.bool false))] [(1, 1, (.const (.bool true))), (2, 1, (.const (.bool true))), (3, 1, (.const (.bool true)))], none⟩,
  ⟨none, .store 5 (.tmp 2) (.tmp 26), none⟩,
  ⟨some 3, .mv (.const (.bool true)), none⟩]) .ret) .skip)))))))))))))))) (.seq (.region [⟨some 27, .build [(.v (.bool false)), (.v (.bool false)), (.v (.bool false)), (.v (.bool false)), (.v (.bool false))] [], none⟩,
  ⟨none, .store 5 (.tmp 2) (.tmp 27), none⟩,
  ⟨some 3, .mv (.const (.bool false)), none⟩]) .ret)))
def x257 : XFn := ⟨s257, s257, 28, [.cell 2 5 true, .tmp 3], []⟩
theorem o257 : XOk Tryz.prog 257 x257 := ⟨Tryz.f257, Tryz.f257.body.getD .skip, Tryz.func257, by kernel_rfl, by kernel_rfl, by kernel_rfl, by kernel_rfl, by kernel_rfl, by kernel_rfl⟩
-- 258 watermeet/conf.formed$1
def s258 : SCode := (.seq (.region [⟨some 4, .mv (.const (.bool false)), none⟩]) (.seq (.region [⟨some 5, .mv (.tmp 0), none⟩,
  ⟨some 6, .mv (.tmp 5), none⟩,
  ⟨some 7, .mv (.tmp 1), some (6, true)⟩,
  ⟨some 8, .call 104 [(.tmp 7)], some (6, true)⟩,
  ⟨some 9, .pick (.tmp 6) (.tmp 8) (.const (.bool false)), none⟩,
  ⟨some 10, .mv (.tmp 9), none⟩,
  ⟨some 11, .mv (.tmp 0), some (10, false)⟩,
  ⟨some 12, .un .not (.tmp 11), some (10, false)⟩,
  ⟨some 13, .mv (.tmp 12), some (10, false)⟩,
  ⟨some 14, .mv (.tmp 1), some (13, true)⟩,
  ⟨some 15, .bin .eql 9 (.tmp 14) (.const (.string ⟨#[]⟩)), some (13, true)⟩,
  ⟨some 16, .pick (.tmp 13) (.tmp 15) (.const (.bool false)), some (10, false)⟩,
  ⟨some 17, .pick (.tmp 10) (.const (.bool true)) (.tmp 16), none⟩,
  ⟨some 4, .mv (.tmp 17), none⟩]) .ret))
def x258 : XFn := ⟨s258, s258, 18, [.tmp 4], []⟩
theorem o258 : XOk Tryz.prog 258 x258 := ⟨Tryz.f258, Tryz.f258.body.getD .skip, Tryz.func258, by kernel_rfl, by kernel_rfl, by kernel_rfl, by kernel_rfl, by kernel_rfl, by kernel_rfl⟩
-- 259 watermeet/conf.formed$2
def s259 : SCode := (.seq (.region [⟨some 4, .mv (.const (.bool false)), none⟩]) (.seq (.region [⟨some 5, .mv (.tmp 1), none⟩,
  ⟨some 6, .bin .eql 3 (.tmp 5) (.const (.int .i64 0)), none⟩,
  ⟨some 7, .mv (.tmp 6), none⟩,
  ⟨some 8, .mv (.tmp 0), some (7, false)⟩,
  ⟨some 9, .mv (.tmp 8), some (7, false)⟩,
  ⟨some 10, .mv (.tmp 1), some (9, true)⟩,
  ⟨some 11, .call 100 [(.tmp 10), (.const (.int .i64 0)), (.const (.int .i64 1099511627776))], some (9, true)⟩,
  ⟨some 12, .pick (.tmp 9) (.tmp 11) (.const (.bool false)), some (7, false)⟩,
  ⟨some 13, .pick (.tmp 7) (.const (.bool true)) (.tmp 12), none⟩,
  ⟨some 4, .mv (.tmp 13), none⟩]) .ret))
def x259 : XFn := ⟨s259, s259, 14, [.tmp 4], []⟩
theorem o259 : XOk Tryz.prog 259 x259 := ⟨Tryz.f259, Tryz.f259.body.getD .skip, Tryz.func259, by kernel_rfl, by kernel_rfl, by kernel_rfl, by kernel_rfl, by kernel_rfl, by kernel_rfl⟩
-- 260 watermeet/conf.does$1
def s260 : SCode := (.seq (.region [⟨some 1, .box 345 (.tmp 0), none⟩,
  ⟨some 2, .mv (.const .nilFunc), none⟩]) (.seq (.region [⟨some 3, .mkfn 261 [(.tmp 1)], none⟩,
  ⟨some 2, .mv (.tmp 3), none⟩]) .ret))
def x260 : XFn := ⟨s260, s260, 4, [.tmp 2], []⟩
theorem o260 : XOk Tryz.prog 260 x260 := ⟨Tryz.f260, Tryz.f260.body.getD .skip, Tryz.func260, by kernel_rfl, by kernel_rfl, by kernel_rfl, by kernel_rfl, by kernel_rfl, by kernel_rfl⟩
-- 262 watermeet/conf.find
def s262 : SCode := (.seq (.region [⟨some 2, .box 44 (.tmp 0), none⟩,
  ⟨some 4, .mv (.const (.int .i64 0)), none⟩,
  ⟨some 5, .mv (.const (.bool false)), none⟩]) (.seq (.region [⟨some 6, .fld (.tmp 2) 1, none⟩,
  ⟨some 7, .load 1 false (.tmp 6), none⟩,
  ⟨some 8, .mv (.tmp 1), none⟩,
  ⟨some 9, .build [(.v (.string ⟨#[]⟩)), (.v (.int .i64 0)), (.v (.bool false)), (.v (.int .i64 0))] [(0, 1, (.tmp 8))], none⟩,
  ⟨some 10, .call 315 [(.tmp 7), (.tmp 9), (.func 102)], none⟩,
  ⟨some 11, .ext (.tmp 10) 0, none⟩,
  ⟨some 12, .ext (.tmp 10) 1, none⟩,
  ⟨some 4, .mv (.tmp 11), none⟩,
  ⟨some 5, .mv (.tmp 12), none⟩]) .ret))
def x262 : XFn := ⟨s262, s262, 13, [.tmp 4, .tmp 5], []⟩
theorem o262 : XOk Tryz.prog 262 x262 := ⟨Tryz.f262, Tryz.f262.body.getD .skip, Tryz.func262, by kernel_rfl, by kernel_rfl, by kernel_rfl, by kernel_rfl, by kernel_rfl, by kernel_rfl⟩
-- 266 watermeet/conf.does$3
def s266 : SCode := (.seq (.region [⟨some 3, .box 74 (.tmp 1), none⟩,
  ⟨some 4, .mv (.const (.int .i64 0)), none⟩]) (.seq (.seq (.drawn [⟨some 5, .mv (.tmp 0), none⟩,
  ⟨some 6, .nilc (.tmp 5), none⟩,
  ⟨some 7, .load 5 true (.tmp 6), none⟩,
  ⟨some 8, .fld (.tmp 3) 1, none⟩,
  ⟨some 9, .load 1 false (.tmp 8), none⟩,
  ⟨some 10, .call 108 [(.tmp 7), (.tmp 9)], none⟩] [(1000000, 1000000), (2, 4)]) (.cond (.tmp 10) (.seq (.region [⟨some 4, .mv (.const (.int .i64 190)), none⟩]) .ret) .skip)) (.seq (.seq (.region [⟨some 11, .fld (.tmp 3) 3, none⟩,
  ⟨some 12, .load 1 false (.tmp 11), none⟩,
  ⟨some 13, .call 100 [(.tmp 12), (.const (.int .i64 1)), (.const (.int .i64 6))], none⟩,
  ⟨some 14, .un .not (.tmp 13), none⟩,
  ⟨some 15, .mv (.tmp 14), none⟩,
  ⟨some 16, .fld (.tmp 3) 4, some (15, false)⟩,
  ⟨some 17, .load 1 false (.tmp 16), some (15, false)⟩,
  ⟨some 18, .bin .gtr 3 (.tmp 17) (.const (.int .i64 1)), some (15, false)⟩,
  ⟨some 19, .pick (.tmp 15) (.const (.bool true)) (.tmp 18), none⟩,
  ⟨some 20, .mv (.tmp 19), none⟩,
  ⟨some 21, .mv (.tmp 0), some (20, false)⟩,
  ⟨some 22, .nilc (.tmp 21), some (20, false)⟩,
  ⟨some 23, .fld (.tmp 22) 1, some (20, false)⟩,
  ⟨some 24, .load 1 false (.tmp 23), some (20, false)⟩,
  ⟨some 25, .len false (.tmp 24), some (20, false)⟩,
  ⟨some 26, .bin .eql 3 (.tmp 25) (.const (.int .i64 12)), some (20, false)⟩,
  ⟨some 27, .pick (.tmp 20) (.const (.bool true)) (.tmp 26), none⟩]) (.cond (.tmp 27) (.seq (.region [⟨some 4, .mv (.const (.int .i64 192)), none⟩]) .ret) .skip)) (.seq (.drawn [⟨some 28, .mv (.tmp 0), none⟩,
  ⟨some 29, .mv (.tmp 0), none⟩,
  ⟨some 30, .nilc (.tmp 29), none⟩,
  ⟨some 31, .fld (.tmp 30) 1, none⟩,
  ⟨some 32, .load 1 false (.tmp 31), none⟩,
  ⟨some 33, .fld (.tmp 3) 1, none⟩,
  ⟨some 34, .load 1 false (.tmp 33), none⟩,
  ⟨some 35, .fld (.tmp 3) 3, none⟩,
  ⟨some 36, .load 1 false (.tmp 35), none⟩,
  ⟨some 37, .fld (.tmp 3) 4, none⟩,
  ⟨some 38, .load 1 false (.tmp 37), none⟩,
  ⟨some 39, .bin .eql 3 (.tmp 38) (.const (.int .i64 1)), none⟩,
  ⟨some 40, .fld (.tmp 3) 5, none⟩,
  ⟨some 41, .load 1 false (.tmp 40), none⟩,
  ⟨some 42, .build [(.v (.string ⟨#[]⟩)), (.v (.int .i64 0)), (.v (.bool false)), (.v (.int .i64 0))] [(0, 1, (.tmp 34)), (1, 1, (.tmp 36)), (2, 1, (.tmp 39)), (3, 1, (.tmp 41))], none⟩,
  ⟨some 43, .call 267 [(.tmp 32), (.tmp 42), (.func 102), (.const (.bool true))], none⟩,
  ⟨some 44, .nilc (.tmp 28), none⟩,
  ⟨some 45, .fld (.tmp 44) 1, none⟩,
  ⟨none, .store 1 (.tmp 45) (.tmp 43), none⟩] [(1000000, 1000000), (4, 6), (4, 8), (6, 8), (4, 10), (6, 10), (8, 10), (4, 13), (6, 13), (8, 13), (10, 13)]) (.seq (.region [⟨some 4, .mv (.const (.int .i64 0)), none⟩]) .ret)))))
def x266 : XFn := ⟨s266, s266, 46, [.tmp 4], []⟩
theorem o266 : XOk Tryz.prog 266 x266 := ⟨Tryz.f266, Tryz.f266.body.getD .skip, Tryz.func266, by kernel_rfl, by kernel_rfl, by kernel_rfl, by kernel_rfl, by kernel_rfl, by kernel_rfl⟩
-- 267 watermeet/conf.set[watermeet/api.Topic]
def s267 : SCode := (.seq (.region [⟨some 5, .box 169 (.tmp 1), none⟩,
  ⟨some 8, .mv (.const (.slice none 0 0)), none⟩]) (.seq (.region [⟨some 13, .mv (.tmp 0), none⟩,
  ⟨some 14, .load 4 true (.tmp 5), none⟩,
  ⟨some 15, .mv (.tmp 2), none⟩,
  ⟨some 16, .call 315 [(.tmp 13), (.tmp 14), (.tmp 15)], none⟩,
  ⟨some 12, .mv (.tmp 16), none⟩,
  ⟨some 17, .ext (.tmp 12) 0, none⟩,
  ⟨some 18, .ext (.tmp 12) 1, none⟩,
  ⟨some 9, .mv (.tmp 17), none⟩,
  ⟨some 10, .mv (.tmp 18), none⟩]) (.seq (.region [⟨some 19, .mv (.tmp 0), none⟩,
  ⟨some 20, .call 91 [(.tmp 19)], none⟩,
  ⟨some 11, .mv (.tmp 20), none⟩]) (.seq (.block 0 (.seq (.region [⟨some 22, .mv (.tmp 10), none⟩,
  ⟨some 23, .mv (.tmp 22), none⟩,
  ⟨some 24, .mv (.tmp 3), some (23, true)⟩,
  ⟨some 25, .pick (.tmp 23) (.tmp 24) (.const (.bool false)), none⟩,
  ⟨some 21, .mv (.tmp 25), none⟩]) (.cond (.tmp 21) (.region [⟨some 26, .mv (.tmp 11), none⟩,
  ⟨some 27, .mv (.tmp 9), none⟩,
  ⟨some 28, .load 4 true (.tmp 5), none⟩,
  ⟨some 29, .eadr (.tmp 26) (.tmp 27) 4, none⟩,
  ⟨none, .store 4 (.tmp 29) (.tmp 28), none⟩]) (.seq (.region [⟨some 31, .mv (.tmp 10), none⟩,
  ⟨some 30, .mv (.tmp 31), none⟩]) (.cond (.tmp 30) (.region [⟨some 32, .mv (.tmp 11), none⟩,
  ⟨some 33, .mv (.tmp 9), none⟩,
  ⟨some 34, .mv (.tmp 9), none⟩,
  ⟨some 35, .bin .add 3 (.tmp 34) (.const (.int .i64 1)), none⟩,
  ⟨some 36, .call 269 [(.tmp 32), (.tmp 33), (.tmp 35)], none⟩,
  ⟨some 11, .mv (.tmp 36), none⟩]) (.seq (.region [⟨some 38, .mv (.tmp 3), none⟩,
  ⟨some 37, .mv (.tmp 38), none⟩]) (.cond (.tmp 37) (.region [⟨some 39, .mv (.tmp 11), none⟩,
  ⟨some 40, .mv (.tmp 9), none⟩,
  ⟨some 41, .load 4 true (.tmp 5), none⟩,
  ⟨some 42, .lits true 4 1 [(.v (.string ⟨#[]⟩)), (.v (.int .i64 0)), (.v (.bool false)), (.v (.int .i64 0))] [(0, 4, (.tmp 41))], none⟩,
  ⟨some 43, .call 320 [(.tmp 39), (.tmp 40), (.tmp 42)], none⟩,
  ⟨some 11, .mv (.tmp 43), none⟩]) .skip))))))) (.seq (.region [⟨some 44, .mv (.tmp 11), none⟩,
  ⟨some 8, .mv (.tmp 44), none⟩]) .ret)))))
def x267 : XFn := ⟨s267, s267, 45, [.tmp 8], []⟩
theorem o267 : XOk Tryz.prog 267 x267 := ⟨Tryz.f267, Tryz.f267.body.getD .skip, Tryz.func267, by kernel_rfl, by kernel_rfl, by kernel_rfl, by kernel_rfl, by kernel_rfl, by kernel_rfl⟩
-- 280 slices.BinarySearchFunc[[]watermeet/api.Slot,watermeet/api.Slot,watermeet/api.Slot]
def s280_1 : SCode := (.seq (.seq (.region [⟨some 15, .mv (.tmp 9), none⟩,
  ⟨some 16, .mv (.tmp 10), none⟩,
  ⟨some 17, .bin .lss 3 (.tmp 15) (.tmp 16), none⟩]) (.cond (.tmp 17) .skip (.exit 0))) (.block 1 (.seq (.region [⟨some 18, .mv (.tmp 9), none⟩,
  ⟨some 19, .mv (.tmp 10), none⟩,
  ⟨some 20, .bin .add 3 (.tmp 18) (.tmp 19), none⟩,
  ⟨some 21, .conv .u64 (.tmp 20), none⟩,
  ⟨some 22, .bin .shr 190 (.tmp 21) (.const (.int .u64 1)), none⟩,
  ⟨some 23, .conv .i64 (.tmp 22), none⟩,
  ⟨some 11, .mv (.tmp 23), none⟩]) (.seq (.drawn [⟨some 24, .mv (.tmp 2), none⟩,
  ⟨some 25, .mv (.tmp 0), none⟩,
  ⟨some 26, .mv (.tmp 11), none⟩,
  ⟨some 27, .eadr (.tmp 25) (.tmp 26) 15, none⟩,
  ⟨some 28, .load 15 true (.tmp 27), none⟩,
  ⟨some 29, .load 15 true (.tmp 4), none⟩,
  ⟨some 30, .callv (.tmp 24) [(.tmp 28), (.tmp 29)], none⟩,
  ⟨some 31, .bin .lss 3 (.tmp 30) (.const (.int .i64 0)), none⟩] [(1000000, 1000000), (3, 5), (4, 5)]) (.cond (.tmp 31) (.region [⟨some 32, .mv (.tmp 11), none⟩,
  ⟨some 33, .bin .add 3 (.tmp 32) (.const (.int .i64 1)), none⟩,
  ⟨some 9, .mv (.tmp 33), none⟩]) (.region [⟨some 34, .mv (.tmp 11), none⟩,
  ⟨some 10, .mv (.tmp 34), none⟩]))))))
def s280 : SCode := (.seq (.region [⟨some 4, .box 106 (.tmp 1), none⟩,
  ⟨some 6, .mv (.const (.int .i64 0)), none⟩,
  ⟨some 7, .mv (.const (.bool false)), none⟩]) (.seq (.region [⟨some 12, .mv (.tmp 0), none⟩,
  ⟨some 13, .len false (.tmp 12), none⟩,
  ⟨some 8, .mv (.tmp 13), none⟩]) (.seq (.region [⟨some 14, .mv (.tmp 8), none⟩,
  ⟨some 9, .mv (.const (.int .i64 0)), none⟩,
  ⟨some 10, .mv (.tmp 14), none⟩]) (.seq (.block 0 (.loop s280_1)) (.seq (.drawn [⟨some 35, .mv (.tmp 9), none⟩,
  ⟨some 36, .mv (.tmp 9), none⟩,
  ⟨some 37, .mv (.tmp 8), none⟩,
  ⟨some 38, .bin .lss 3 (.tmp 36) (.tmp 37), none⟩,
  ⟨some 39, .mv (.tmp 38), none⟩,
  ⟨some 40, .mv (.tmp 2), some (39, true)⟩,
  ⟨some 41, .mv (.tmp 0), some (39, true)⟩,
  ⟨some 42, .mv (.tmp 9), some (39, true)⟩,
  ⟨some 43, .eadr (.tmp 41) (.tmp 42) 15, some (39, true)⟩,
  ⟨some 44, .load 15 true (.tmp 43), some (39, true)⟩,
  ⟨some 45, .load 15 true (.tmp 4), some (39, true)⟩,
  ⟨some 46, .callv (.tmp 40) [(.tmp 44), (.tmp 45)], some (39, true)⟩,
  ⟨some 47, .bin .eql 3 (.tmp 46) (.const (.int .i64 0)), some (39, true)⟩,
  ⟨some 48, .pick (.tmp 39) (.tmp 47) (.const (.bool false)), none⟩,
  ⟨some 6, .mv (.tmp 35), none⟩,
  ⟨some 7, .mv (.tmp 48), none⟩] [(1000000, 1000000), (8, 10), (9, 10)]) .ret)))))
def x280 : XFn := ⟨s280, s280, 49, [.tmp 6, .tmp 7], []⟩
theorem o280 : XOk Tryz.prog 280 x280 := ⟨Tryz.f280, Tryz.f280.body.getD .skip, Tryz.func280, by kernel_rfl, by kernel_rfl, by kernel_rfl, by kernel_rfl, by kernel_rfl, by kernel_rfl⟩
-- 281 slices.Clone[[]watermeet/api.Slot,watermeet/api.Slot]
def s281 : SCode := (.seq (.region [⟨some 2, .mv (.const (.slice none 0 0)), none⟩]) (.seq (.seq (.region [⟨some 3, .mv (.tmp 0), none⟩,
  ⟨some 4, .bin .eql 45 (.tmp 3) (.const (.slice none 0 0)), none⟩]) (.cond (.tmp 4) (.seq (.region [⟨some 2, .mv (.const (.slice none 0 0)), none⟩]) .ret) .skip)) (.seq (.region [⟨some 5, .lits true 15 0 [(.v (.string ⟨#[]⟩)), (.v (.int .i64 0)), (.v (.int .i64 0)), (.v (.int .i64 0)), (.v (.int .i64 0)), (.v (.int .i64 0)), .e0, .e0, (.v (.int .i64 0)), (.v (.int .i64 0)), .e0, .e0, .e0, .e0, .e0] [], none⟩,
  ⟨some 6, .mv (.tmp 0), none⟩,
  ⟨some 7, .app 106 15 (.agg [(.v (.string ⟨#[]⟩)), (.v (.int .i64 0)), (.v (.int .i64 0)), (.v (.int .i64 0)), (.v (.int .i64 0)), (.v (.int .i64 0)), .e0, .e0, (.v (.int .i64 0)), (.v (.int .i64 0)), .e0, .e0, .e0, .e0, .e0]) (.tmp 5) (.tmp 6), none⟩,
  ⟨some 2, .mv (.tmp 7), none⟩]) .ret)))
def x281 : XFn := ⟨s281, s281, 8, [.tmp 2], []⟩
theorem o281 : XOk Tryz.prog 281 x281 := ⟨Tryz.f281, Tryz.f281.body.getD .skip, Tryz.func281, by kernel_rfl, by kernel_rfl, by kernel_rfl, by kernel_rfl, by kernel_rfl, by kernel_rfl⟩
-- 282 slices.Insert[[]watermeet/api.Slot,watermeet/api.Slot]
def s282 : SCode := (.seq (.region [⟨some 6, .mv (.const (.slice none 0 0)), none⟩]) (.seq (.region [⟨some 10, .mv (.tmp 0), none⟩,
  ⟨some 11, .mv (.tmp 1), none⟩,
  ⟨some 12, .ssl (.tmp 10) (some (.tmp 11)) none 15, none⟩]) (.seq (.region [⟨some 13, .mv (.tmp 2), none⟩,
  ⟨some 14, .len false (.tmp 13), none⟩,
  ⟨some 7, .mv (.tmp 14), none⟩]) (.seq (.seq (.region [⟨some 15, .mv (.tmp 7), none⟩,
  ⟨some 16, .bin .eql 3 (.tmp 15) (.const (.int .i64 0)), none⟩]) (.cond (.tmp 16) (.seq (.region [⟨some 17, .mv (.tmp 0), none⟩,
  ⟨some 6, .mv (.tmp 17), none⟩]) .ret) .skip)) (.seq (.region [⟨some 18, .mv (.tmp 0), none⟩,
  ⟨some 19, .len false (.tmp 18), none⟩,
  ⟨some 8, .mv (.tmp 19), none⟩]) (.seq (.seq (.region [⟨some 20, .mv (.tmp 1), none⟩,
  ⟨some 21, .mv (.tmp 8), none⟩,
  ⟨some 22, .bin .eql 3 (.tmp 20) (.tmp 21), none⟩]) (.cond (.tmp 22) (.seq (.region [⟨some 23, .mv (.tmp 0), none⟩,
  ⟨some 24, .mv (.tmp 2), none⟩,
  ⟨some 25, .app 106 15 (.agg [(.v (.string ⟨#[]⟩)), (.v (.int .i64 0)), (.v (.int .i64 0)), (.v (.int .i64 0)), (.v (.int .i64 0)), (.v (.int .i64 0)), .e0, .e0, (.v (.int .i64 0)), (.v (.int .i64 0)), .e0, .e0, .e0, .e0, .e0]) (.tmp 23) (.tmp 24), none⟩,
  ⟨some 6, .mv (.tmp 25), none⟩]) .ret) .skip)) (.seq (.seq (.region [⟨some 26, .mv (.tmp 8), none⟩,
  ⟨some 27, .mv (.tmp 7), none⟩,
  ⟨some 28, .bin .add 3 (.tmp 26) (.tmp 27), none⟩,
  ⟨some 29, .mv (.tmp 0), none⟩,
  ⟨some 30, .stuck, none⟩,
  ⟨some 31, .bin .gtr 3 (.tmp 28) (.tmp 30), none⟩]) (.cond (.tmp 31) (.seq (.region [⟨some 32, .mv (.tmp 0), none⟩,
  ⟨some 33, .mv (.tmp 1), none⟩,
  ⟨some 34, .ssl (.tmp 32) none (some (.tmp 33)) 15, none⟩,
  ⟨some 35, .mv (.tmp 8), none⟩,
  ⟨some 36, .mv (.tmp 7), none⟩,
  ⟨some 37, .bin .add 3 (.tmp 35) (.tmp 36), none⟩,
  ⟨some 38, .mv (.tmp 1), none⟩,
  ⟨some 39, .bin .sub 3 (.tmp 37) (.tmp 38), none⟩,
  ⟨some 40, .stuck, none⟩,
  ⟨some 9, .mv (.tmp 40), none⟩]) (.seq (.region [⟨some 41, .mv (.tmp 9), none⟩,
  ⟨some 42, .mv (.tmp 1), none⟩,
  ⟨some 43, .ssl (.tmp 41) (some (.tmp 42)) none 15, none⟩,
  ⟨some 44, .mv (.tmp 2), none⟩,
  ⟨some 45, .copy 15 (.tmp 43) (.tmp 44), none⟩]) (.seq (.drawn [⟨some 46, .mv (.tmp 9), none⟩,
  ⟨some 47, .mv (.tmp 1), none⟩,
  ⟨some 48, .mv (.tmp 7), none⟩,
  ⟨some 49, .bin .add 3 (.tmp 47) (.tmp 48), none⟩,
  ⟨some 50, .ssl (.tmp 46) (some (.tmp 49)) none 15, none⟩,
  ⟨some 51, .mv (.tmp 0), none⟩,
  ⟨some 52, .mv (.tmp 1), none⟩,
  ⟨some 53, .ssl (.tmp 51) (some (.tmp 52)) none 15, none⟩,
  ⟨some 54, .copy 15 (.tmp 50) (.tmp 53), none⟩] [(1000000, 1000000), (4, 7)]) (.seq (.region [⟨some 55, .mv (.tmp 9), none⟩,
  ⟨some 6, .mv (.tmp 55), none⟩]) .ret)))) .skip)) (.seq (.region [⟨some 56, .mv (.tmp 0), none⟩,
  ⟨some 57, .mv (.tmp 8), none⟩,
  ⟨some 58, .mv (.tmp 7), none⟩,
  ⟨some 59, .bin .add 3 (.tmp 57) (.tmp 58), none⟩,
  ⟨some 60, .ssl (.tmp 56) none (some (.tmp 59)) 15, none⟩,
  ⟨some 0, .mv (.tmp 60), none⟩]) (.seq (.seq (.region [⟨some 61, .mv (.tmp 2), none⟩,
  ⟨some 62, .mv (.tmp 0), none⟩,
  ⟨some 63, .mv (.tmp 1), none⟩,
  ⟨some 64, .mv (.tmp 7), none⟩,
  ⟨some 65, .bin .add 3 (.tmp 63) (.tmp 64), none⟩,
  ⟨some 66, .ssl (.tmp 62) (some (.tmp 65)) none 15, none⟩,
  ⟨some 67, .call 329 [(.tmp 61), (.tmp 66)], none⟩,
  ⟨some 68, .un .not (.tmp 67), none⟩]) (.cond (.tmp 68) (.seq (.drawn [⟨some 69, .mv (.tmp 0), none⟩,
  ⟨some 70, .mv (.tmp 1), none⟩,
  ⟨some 71, .mv (.tmp 7), none⟩,
  ⟨some 72, .bin .add 3 (.tmp 70) (.tmp 71), none⟩,
  ⟨some 73, .ssl (.tmp 69) (some (.tmp 72)) none 15, none⟩,
  ⟨some 74, .mv (.tmp 0), none⟩,
  ⟨some 75, .mv (.tmp 1), none⟩,
  ⟨some 76, .ssl (.tmp 74) (some (.tmp 75)) none 15, none⟩,
  ⟨some 77, .copy 15 (.tmp 73) (.tmp 76), none⟩] [(1000000, 1000000), (4, 7)]) (.seq (.region [⟨some 78, .mv (.tmp 0), none⟩,
  ⟨some 79, .mv (.tmp 1), none⟩,
  ⟨some 80, .ssl (.tmp 78) (some (.tmp 79)) none 15, none⟩,
  ⟨some 81, .mv (.tmp 2), none⟩,
  ⟨some 82, .copy 15 (.tmp 80) (.tmp 81), none⟩]) (.seq (.region [⟨some 83, .mv (.tmp 0), none⟩,
  ⟨some 6, .mv (.tmp 83), none⟩]) .ret))) .skip)) (.seq (.region [⟨some 84, .mv (.tmp 0), none⟩,
  ⟨some 85, .mv (.tmp 8), none⟩,
  ⟨some 86, .ssl (.tmp 84) (some (.tmp 85)) none 15, none⟩,
  ⟨some 87, .mv (.tmp 2), none⟩,
  ⟨some 88, .copy 15 (.tmp 86) (.tmp 87), none⟩]) (.seq (.region [⟨some 89, .mv (.tmp 0), none⟩,
  ⟨some 90, .mv (.tmp 1), none⟩,
  ⟨some 91, .ssl (.tmp 89) (some (.tmp 90)) none 15, none⟩,
  ⟨some 92, .mv (.tmp 7), none⟩,
  ⟨some 93, .call 330 [(.tmp 91), (.tmp 92)], none⟩]) (.seq (.region [⟨some 94, .mv (.tmp 0), none⟩,
  ⟨some 6, .mv (.tmp 94), none⟩]) .ret))))))))))))
def x282 : XFn := ⟨s282, s282, 95, [.tmp 6], [0]⟩
theorem o282 : XOk Tryz.prog 282 x282 := ⟨Tryz.f282, Tryz.f282.body.getD .skip, Tryz.func282, by kernel_rfl, by kernel_rfl, by kernel_rfl, by kernel_rfl, by kernel_rfl, by kernel_rfl⟩
-- 283 watermeet/chain.New
def s283 : SCode := (.seq (.region [⟨some 4, .alloc 112 (.agg [(.v (.int .i64 0)), (.v (.int .i64 0)), .e0]), none⟩,
  ⟨some 5, .mv (.const (.int .i64 0)), none⟩]) (.seq (.seq (.region [⟨some 6, .mv (.tmp 0), none⟩,
  ⟨some 7, .mv (.tmp 1), none⟩,
  ⟨some 8, .call 331 [(.tmp 6), (.tmp 7)], none⟩,
  ⟨some 9, .un .not (.tmp 8), none⟩]) (.cond (.tmp 9) (.seq (.region [⟨some 10, .build [(.v (.int .i64 0)), (.v (.int .i64 0)), .e0] [], none⟩,
  ⟨none, .store 3 (.tmp 4) (.tmp 10), none⟩,
  ⟨some 5, .mv (.const (.int .i64 1)), none⟩]) .ret) .skip)) (.seq (.region [⟨some 11, .mv (.tmp 0), none⟩,
  ⟨some 12, .mv (.tmp 1), none⟩,
  ⟨some 13, .mv (.tmp 1), none⟩,
  ⟨some 14, .build [(.v (.int .i64 0)), .e0] [(0, 1, (.tmp 13))], none⟩,
  ⟨some 15, .lits true 2 1 [(.v (.int .i64 0)), .e0] [(0, 2, (.tmp 14))], none⟩,
  ⟨some 16, .build [(.v (.int .i64 0)), (.v (.int .i64 0)), .e0] [(0, 1, (.tmp 11)), (1, 1, (.tmp 12)), (2, 1, (.tmp 15))], none⟩,
  ⟨none, .store 3 (.tmp 4) (.tmp 16), none⟩,
  ⟨some 5, .mv (.const (.int .i64 0)), none⟩]) .ret)))
def x283 : XFn := ⟨s283, s283, 17, [.cell 4 3 true, .tmp 5], []⟩
theorem o283 : XOk Tryz.prog 283 x283 := ⟨Tryz.f283, Tryz.f283.body.getD .skip, Tryz.func283, by kernel_rfl, by kernel_rfl, by kernel_rfl, by kernel_rfl, by kernel_rfl, by kernel_rfl⟩
-- 284 slices.Clone[[]int,int]
def s284 : SCode := (.seq (.region [⟨some 2, .mv (.const (.slice none 0 0)), none⟩]) (.seq (.seq (.region [⟨some 3, .mv (.tmp 0), none⟩,
  ⟨some 4, .bin .eql 93 (.tmp 3) (.const (.slice none 0 0)), none⟩]) (.cond (.tmp 4) (.seq (.region [⟨some 2, .mv (.const (.slice none 0 0)), none⟩]) .ret) .skip)) (.seq (.region [⟨some 5, .lits false 1 0 [(.v (.int .i64 0))] [], none⟩,
  ⟨some 6, .mv (.tmp 0), none⟩,
  ⟨some 7, .app 3 1 (.v (.int .i64 0)) (.tmp 5) (.tmp 6), none⟩,
  ⟨some 2, .mv (.tmp 7), none⟩]) .ret)))
def x284 : XFn := ⟨s284, s284, 8, [.tmp 2], []⟩
theorem o284 : XOk Tryz.prog 284 x284 := ⟨Tryz.f284, Tryz.f284.body.getD .skip, Tryz.func284, by kernel_rfl, by kernel_rfl, by kernel_rfl, by kernel_rfl, by kernel_rfl, by kernel_rfl⟩
-- 285 watermeet/repl.of
def s285 : SCode := (.seq (.region [⟨some 3, .box 96 (.tmp 0), none⟩,
  ⟨some 4, .box 3 (.tmp 1), none⟩,
  ⟨some 5, .box 365 (.tmp 2), none⟩,
  ⟨some 6, .alloc 96 (.agg [(.v (.int .i64 0)), (.v (.int .i64 0)), (.v (.int .i64 0)), .e0, .e0]), none⟩,
  ⟨some 7, .mv (.const (.int .i64 0)), none⟩]) (.seq (.region [⟨some 8, .load 5 true (.tmp 3), none⟩,
  ⟨some 9, .mkfn 333 [(.tmp 4), (.tmp 5)], none⟩,
  ⟨some 10, .call 332 [(.tmp 8), (.tmp 9)], none⟩,
  ⟨some 11, .ext (.tmp 10) 0, none⟩,
  ⟨some 12, .ext (.tmp 10) 1, none⟩,
  ⟨none, .store 5 (.tmp 6) (.tmp 11), none⟩,
  ⟨some 7, .mv (.tmp 12), none⟩]) .ret))
def x285 : XFn := ⟨s285, s285, 13, [.cell 6 5 true, .tmp 7], []⟩
theorem o285 : XOk Tryz.prog 285 x285 := ⟨Tryz.f285, Tryz.f285.body.getD .skip, Tryz.func285, by kernel_rfl, by kernel_rfl, by kernel_rfl, by kernel_rfl, by kernel_rfl, by kernel_rfl⟩
-- 286 watermeet/repl.Crash$1
def s286 : SCode := (.seq (.region [⟨some 6, .mv (.const (.int .i64 0)), none⟩]) (.seq (.block 0 (.seq (.region [⟨some 10, .load 1 false (.tmp 2), none⟩,
  ⟨some 11, .bin .lss 3 (.tmp 10) (.const (.int .i64 0)), none⟩,
  ⟨some 9, .mv (.tmp 11), none⟩]) (.cond (.tmp 9) (.seq (.region [⟨some 6, .mv (.const (.int .i64 1)), none⟩]) .ret) (.seq (.region [⟨some 13, .mv (.tmp 1), none⟩,
  ⟨some 14, .nilc (.tmp 13), none⟩,
  ⟨some 15, .fld (.tmp 14) 1, none⟩,
  ⟨some 16, .load 1 false (.tmp 15), none⟩,
  ⟨some 17, .un .not (.tmp 16), none⟩,
  ⟨some 12, .mv (.tmp 17), none⟩]) (.cond (.tmp 12) (.seq (.region [⟨some 6, .mv (.const (.int .i64 180)), none⟩]) .ret) .skip))))) (.seq (.region [⟨some 18, .mv (.tmp 1), none⟩,
  ⟨some 19, .nilc (.tmp 18), none⟩,
  ⟨some 20, .fld (.tmp 19) 2, none⟩,
  ⟨some 21, .fld (.tmp 20) 2, none⟩,
  ⟨some 22, .load 1 false (.tmp 21), none⟩,
  ⟨some 23, .call 287 [(.tmp 22)], none⟩,
  ⟨some 7, .mv (.tmp 23), none⟩]) (.seq (.region [⟨some 24, .mv (.tmp 7), none⟩,
  ⟨some 25, .mv (.tmp 7), none⟩,
  ⟨some 26, .len false (.tmp 25), none⟩,
  ⟨some 27, .bin .sub 3 (.tmp 26) (.const (.int .i64 1)), none⟩,
  ⟨some 28, .eadr (.tmp 24) (.tmp 27) 2, none⟩,
  ⟨some 8, .mv (.tmp 28), none⟩]) (.seq (.drawn [⟨some 29, .mv (.tmp 8), none⟩,
  ⟨some 30, .mv (.tmp 8), none⟩,
  ⟨some 31, .nilc (.tmp 30), none⟩,
  ⟨some 32, .fld (.tmp 31) 1, none⟩,
  ⟨some 33, .load 1 false (.tmp 32), none⟩,
  ⟨some 34, .mv (.tmp 8), none⟩,
  ⟨some 35, .nilc (.tmp 34), none⟩,
  ⟨some 36, .fld (.tmp 35) 1, none⟩,
  ⟨some 37, .load 1 false (.tmp 36), none⟩,
  ⟨some 38, .len false (.tmp 37), none⟩,
  ⟨some 39, .load 1 false (.tmp 2), none⟩,
  ⟨some 40, .mv (.tmp 8), none⟩,
  ⟨some 41, .nilc (.tmp 40), none⟩,
  ⟨some 42, .fld (.tmp 41) 1, none⟩,
  ⟨some 43, .load 1 false (.tmp 42), none⟩,
  ⟨some 44, .len false (.tmp 43), none⟩,
  ⟨some 45, .mm false (.tmp 39) (.tmp 44), none⟩,
  ⟨some 46, .bin .sub 3 (.tmp 38) (.tmp 45), none⟩,
  ⟨some 47, .ssl (.tmp 33) none (some (.tmp 46)) 1, none⟩,
  ⟨some 48, .nilc (.tmp 29), none⟩,
  ⟨some 49, .fld (.tmp 48) 1, none⟩,
  ⟨none, .store 1 (.tmp 49) (.tmp 47), none⟩] [(1000000, 1000000), (4, 8), (4, 10), (8, 10), (4, 14), (8, 14), (10, 14)]) (.seq (.region [⟨some 50, .mv (.tmp 1), none⟩,
  ⟨some 51, .mv (.tmp 1), none⟩,
  ⟨some 52, .mv (.tmp 7), none⟩,
  ⟨some 53, .nilc (.tmp 50), none⟩,
  ⟨some 54, .fld (.tmp 53) 1, none⟩,
  ⟨none, .store 1 (.tmp 54) (.const (.bool false)), none⟩,
  ⟨some 55, .nilc (.tmp 51), none⟩,
  ⟨some 56, .fld (.tmp 55) 2, none⟩,
  ⟨some 57, .fld (.tmp 56) 2, none⟩,
  ⟨none, .store 1 (.tmp 57) (.tmp 52), none⟩]) (.seq (.seq (.drawn [⟨some 58, .mv (.tmp 0), none⟩,
  ⟨some 59, .nilc (.tmp 58), none⟩,
  ⟨some 60, .fld (.tmp 59) 0, none⟩,
  ⟨some 61, .fld (.tmp 60) 1, none⟩,
  ⟨some 62, .load 1 false (.tmp 61), none⟩,
  ⟨some 63, .load 1 false (.tmp 3), none⟩,
  ⟨some 64, .bin .eql 3 (.tmp 62) (.tmp 63), none⟩] [(1000000, 1000000), (4, 5)]) (.cond (.tmp 64) (.region [⟨some 65, .mv (.tmp 0), none⟩,
  ⟨some 66, .nilc (.tmp 65), none⟩,
  ⟨some 67, .fld (.tmp 66) 0, none⟩,
  ⟨some 68, .fld (.tmp 67) 1, none⟩,
  ⟨none, .store 1 (.tmp 68) (.const (.int .i64 (-1))), none⟩]) .skip)) (.seq (.seq (.region [⟨some 69, .mv (.tmp 0), none⟩,
  ⟨some 70, .nilc (.tmp 69), none⟩,
  ⟨some 71, .fld (.tmp 70) 0, none⟩,
  ⟨some 72, .fld (.tmp 71) 3, none⟩,
  ⟨some 73, .load 1 false (.tmp 72), none⟩,
  ⟨some 74, .len false (.tmp 73), none⟩,
  ⟨some 75, .bin .gtr 3 (.tmp 74) (.const (.int .i64 1)), none⟩]) (.cond (.tmp 75) (.region [⟨some 76, .mv (.tmp 0), none⟩,
  ⟨some 77, .load 1 false (.tmp 3), none⟩,
  ⟨some 78, .call 288 [(.tmp 76), (.tmp 77)], none⟩]) .skip)) (.seq (.region [⟨some 79, .mv (.tmp 0), none⟩,
  ⟨some 80, .call 289 [(.tmp 79)], none⟩]) (.seq (.region [⟨some 6, .mv (.const (.int .i64 0)), none⟩]) .ret))))))))))
def x286 : XFn := ⟨s286, s286, 81, [.tmp 6], []⟩
theorem o286 : XOk Tryz.prog 286 x286 := ⟨Tryz.f286, Tryz.f286.body.getD .skip, Tryz.func286, by kernel_rfl, by kernel_rfl, by kernel_rfl, by kernel_rfl, by kernel_rfl, by kernel_rfl⟩
end Go.Wt
