/- What functions of this program compute, a part: see the main text. No conditions. -/
import Derived.Test.YtanpeaakmdffcaaGreatW08
import Derived.Test.YtanpeaakmdffcaaGreatProg
set_option linter.all false
set_option maxRecDepth 100000
namespace Go.Am
open Go
@[go_sem] theorem tsz0 : tsize Go.Proofs.Tryz.prog 0 = some 1 := by kernel_rfl
@[go_sem] theorem tby0 : tbytes Go.Proofs.Tryz.prog 0 = some 0 := by kernel_rfl
@[go_sem] theorem tag0 : tagg Go.Proofs.Tryz.prog 0 = some false := by kernel_rfl
@[go_sem] theorem tar0 : tarr Go.Proofs.Tryz.prog 0 = none := by kernel_rfl
@[go_sem] theorem tun0 : (Go.Proofs.Tryz.prog.underlying 0).isSome = true := by kernel_rfl
@[go_sem] theorem tsz1 : tsize Go.Proofs.Tryz.prog 1 = some 1 := by kernel_rfl
@[go_sem] theorem tby1 : tbytes Go.Proofs.Tryz.prog 1 = some 8 := by kernel_rfl
@[go_sem] theorem tag1 : tagg Go.Proofs.Tryz.prog 1 = some false := by kernel_rfl
@[go_sem] theorem tze1 : tzero Go.Proofs.Tryz.prog 1 = some (.nilf) := by kernel_rfl
@[go_sem] theorem taz1 : azero Go.Proofs.Tryz.prog 1 = some [.nilf] := by kernel_rfl
@[go_sem] theorem tar1 : tarr Go.Proofs.Tryz.prog 1 = none := by kernel_rfl
@[go_sem] theorem tfu1 : tfunc Go.Proofs.Tryz.prog 1 = true := by kernel_rfl
@[go_sem] theorem tun1 : (Go.Proofs.Tryz.prog.underlying 1).isSome = true := by kernel_rfl
@[go_sem] theorem tsz3 : tsize Go.Proofs.Tryz.prog 3 = some 1 := by kernel_rfl
@[go_sem] theorem tby3 : tbytes Go.Proofs.Tryz.prog 3 = some 8 := by kernel_rfl
@[go_sem] theorem tag3 : tagg Go.Proofs.Tryz.prog 3 = some false := by kernel_rfl
@[go_sem] theorem tze3 : tzero Go.Proofs.Tryz.prog 3 = some (.int .i64 0) := by kernel_rfl
@[go_sem] theorem taz3 : azero Go.Proofs.Tryz.prog 3 = some [.int .i64 0] := by kernel_rfl
@[go_sem] theorem tar3 : tarr Go.Proofs.Tryz.prog 3 = none := by kernel_rfl
@[go_sem] theorem tin3 : tint Go.Proofs.Tryz.prog 3 = some .i64 := by kernel_rfl
@[go_sem] theorem tun3 : (Go.Proofs.Tryz.prog.underlying 3).isSome = true := by kernel_rfl
@[go_sem] theorem tsz4 : tsize Go.Proofs.Tryz.prog 4 = some 1 := by kernel_rfl
@[go_sem] theorem tby4 : tbytes Go.Proofs.Tryz.prog 4 = some 1 := by kernel_rfl
@[go_sem] theorem tag4 : tagg Go.Proofs.Tryz.prog 4 = some false := by kernel_rfl
@[go_sem] theorem tze4 : tzero Go.Proofs.Tryz.prog 4 = some (.bool false) := by kernel_rfl
@[go_sem] theorem taz4 : azero Go.Proofs.Tryz.prog 4 = some [.bool false] := by kernel_rfl
@[go_sem] theorem tar4 : tarr Go.Proofs.Tryz.prog 4 = none := by kernel_rfl
@[go_sem] theorem tbo4 : tbool Go.Proofs.Tryz.prog 4 = true := by kernel_rfl
@[go_sem] theorem tun4 : (Go.Proofs.Tryz.prog.underlying 4).isSome = true := by kernel_rfl
@[go_sem] theorem tsz5 : tsize Go.Proofs.Tryz.prog 5 = some 1 := by kernel_rfl
@[go_sem] theorem tby5 : tbytes Go.Proofs.Tryz.prog 5 = some 1 := by kernel_rfl
@[go_sem] theorem tag5 : tagg Go.Proofs.Tryz.prog 5 = some false := by kernel_rfl
@[go_sem] theorem tze5 : tzero Go.Proofs.Tryz.prog 5 = some (.int .u8 0) := by kernel_rfl
@[go_sem] theorem taz5 : azero Go.Proofs.Tryz.prog 5 = some [.int .u8 0] := by kernel_rfl
@[go_sem] theorem tar5 : tarr Go.Proofs.Tryz.prog 5 = none := by kernel_rfl
@[go_sem] theorem tin5 : tint Go.Proofs.Tryz.prog 5 = some .u8 := by kernel_rfl
@[go_sem] theorem tun5 : (Go.Proofs.Tryz.prog.underlying 5).isSome = true := by kernel_rfl
@[go_sem] theorem tsz9 : tsize Go.Proofs.Tryz.prog 9 = some 1 := by kernel_rfl
@[go_sem] theorem tby9 : tbytes Go.Proofs.Tryz.prog 9 = some 16 := by kernel_rfl
@[go_sem] theorem tag9 : tagg Go.Proofs.Tryz.prog 9 = some false := by kernel_rfl
@[go_sem] theorem tze9 : tzero Go.Proofs.Tryz.prog 9 = some (.str []) := by kernel_rfl
@[go_sem] theorem taz9 : azero Go.Proofs.Tryz.prog 9 = some [.str []] := by kernel_rfl
@[go_sem] theorem tar9 : tarr Go.Proofs.Tryz.prog 9 = none := by kernel_rfl
@[go_sem] theorem tst9 : tstr Go.Proofs.Tryz.prog 9 = true := by kernel_rfl
@[go_sem] theorem tun9 : (Go.Proofs.Tryz.prog.underlying 9).isSome = true := by kernel_rfl
@[go_sem] theorem tsz20 : tsize Go.Proofs.Tryz.prog 20 = some 1 := by kernel_rfl
@[go_sem] theorem tby20 : tbytes Go.Proofs.Tryz.prog 20 = some 16 := by kernel_rfl
@[go_sem] theorem tag20 : tagg Go.Proofs.Tryz.prog 20 = some false := by kernel_rfl
@[go_sem] theorem tar20 : tarr Go.Proofs.Tryz.prog 20 = none := by kernel_rfl
@[go_sem] theorem tun20 : (Go.Proofs.Tryz.prog.underlying 20).isSome = true := by kernel_rfl
@[go_sem] theorem tsz22 : tsize Go.Proofs.Tryz.prog 22 = some 1 := by kernel_rfl
@[go_sem] theorem tby22 : tbytes Go.Proofs.Tryz.prog 22 = some 24 := by kernel_rfl
@[go_sem] theorem tag22 : tagg Go.Proofs.Tryz.prog 22 = some false := by kernel_rfl
@[go_sem] theorem tze22 : tzero Go.Proofs.Tryz.prog 22 = some (.list [] .full) := by kernel_rfl
@[go_sem] theorem taz22 : azero Go.Proofs.Tryz.prog 22 = some [.list [] .full] := by kernel_rfl
@[go_sem] theorem tel22 : telem Go.Proofs.Tryz.prog 22 = some 39 := by kernel_rfl
@[go_sem] theorem tar22 : tarr Go.Proofs.Tryz.prog 22 = none := by kernel_rfl
@[go_sem] theorem tun22 : (Go.Proofs.Tryz.prog.underlying 22).isSome = true := by kernel_rfl
@[go_sem] theorem tsz24 : tsize Go.Proofs.Tryz.prog 24 = some 1 := by kernel_rfl
@[go_sem] theorem tby24 : tbytes Go.Proofs.Tryz.prog 24 = some 8 := by kernel_rfl
@[go_sem] theorem tag24 : tagg Go.Proofs.Tryz.prog 24 = some false := by kernel_rfl
@[go_sem] theorem tze24 : tzero Go.Proofs.Tryz.prog 24 = some (.nilp) := by kernel_rfl
@[go_sem] theorem taz24 : azero Go.Proofs.Tryz.prog 24 = some [.nilp] := by kernel_rfl
@[go_sem] theorem tar24 : tarr Go.Proofs.Tryz.prog 24 = none := by kernel_rfl
@[go_sem] theorem tpt24 : tptr Go.Proofs.Tryz.prog 24 = true := by kernel_rfl
@[go_sem] theorem tun24 : (Go.Proofs.Tryz.prog.underlying 24).isSome = true := by kernel_rfl
@[go_sem] theorem tsz26 : tsize Go.Proofs.Tryz.prog 26 = some 1 := by kernel_rfl
@[go_sem] theorem tby26 : tbytes Go.Proofs.Tryz.prog 26 = some 8 := by kernel_rfl
@[go_sem] theorem tag26 : tagg Go.Proofs.Tryz.prog 26 = some false := by kernel_rfl
@[go_sem] theorem tze26 : tzero Go.Proofs.Tryz.prog 26 = some (.int .u64 0) := by kernel_rfl
@[go_sem] theorem taz26 : azero Go.Proofs.Tryz.prog 26 = some [.int .u64 0] := by kernel_rfl
@[go_sem] theorem tar26 : tarr Go.Proofs.Tryz.prog 26 = none := by kernel_rfl
@[go_sem] theorem tin26 : tint Go.Proofs.Tryz.prog 26 = some .u64 := by kernel_rfl
@[go_sem] theorem tun26 : (Go.Proofs.Tryz.prog.underlying 26).isSome = true := by kernel_rfl
@[go_sem] theorem tsz27 : tsize Go.Proofs.Tryz.prog 27 = some 2 := by kernel_rfl
@[go_sem] theorem tby27 : tbytes Go.Proofs.Tryz.prog 27 = some 16 := by kernel_rfl
@[go_sem] theorem tag27 : tagg Go.Proofs.Tryz.prog 27 = some true := by kernel_rfl
@[go_sem] theorem tze27 : tzero Go.Proofs.Tryz.prog 27 = some (.agg [.int .i64 0, .int .i64 0]) := by kernel_rfl
@[go_sem] theorem taz27 : azero Go.Proofs.Tryz.prog 27 = some [.int .i64 0, .int .i64 0] := by kernel_rfl
@[go_sem] theorem tar27 : tarr Go.Proofs.Tryz.prog 27 = none := by kernel_rfl
@[go_sem] theorem tfi27_0 : tfield Go.Proofs.Tryz.prog 27 0 = some (0, 3) := by kernel_rfl
@[go_sem] theorem tfi27_1 : tfield Go.Proofs.Tryz.prog 27 1 = some (1, 3) := by kernel_rfl
@[go_sem] theorem tpl27 : tplaces Go.Proofs.Tryz.prog 27 = some [(0, 1), (1, 1)] := by kernel_rfl
@[go_sem] theorem tun27 : (Go.Proofs.Tryz.prog.underlying 27).isSome = true := by kernel_rfl
@[go_sem] theorem tsz28 : tsize Go.Proofs.Tryz.prog 28 = some 2 := by kernel_rfl
@[go_sem] theorem tby28 : tbytes Go.Proofs.Tryz.prog 28 = some 16 := by kernel_rfl
@[go_sem] theorem tag28 : tagg Go.Proofs.Tryz.prog 28 = some true := by kernel_rfl
@[go_sem] theorem tze28 : tzero Go.Proofs.Tryz.prog 28 = some (.agg [.int .i64 0, .int .i64 0]) := by kernel_rfl
@[go_sem] theorem taz28 : azero Go.Proofs.Tryz.prog 28 = some [.int .i64 0, .int .i64 0] := by kernel_rfl
@[go_sem] theorem tar28 : tarr Go.Proofs.Tryz.prog 28 = none := by kernel_rfl
@[go_sem] theorem tfi28_0 : tfield Go.Proofs.Tryz.prog 28 0 = some (0, 3) := by kernel_rfl
@[go_sem] theorem tfi28_1 : tfield Go.Proofs.Tryz.prog 28 1 = some (1, 3) := by kernel_rfl
@[go_sem] theorem tpl28 : tplaces Go.Proofs.Tryz.prog 28 = some [(0, 1), (1, 1)] := by kernel_rfl
@[go_sem] theorem tun28 : (Go.Proofs.Tryz.prog.underlying 28).isSome = true := by kernel_rfl
@[go_sem] theorem tsz29 : tsize Go.Proofs.Tryz.prog 29 = some 1 := by kernel_rfl
@[go_sem] theorem tby29 : tbytes Go.Proofs.Tryz.prog 29 = some 24 := by kernel_rfl
@[go_sem] theorem tag29 : tagg Go.Proofs.Tryz.prog 29 = some false := by kernel_rfl
@[go_sem] theorem tze29 : tzero Go.Proofs.Tryz.prog 29 = some (.list [] .full) := by kernel_rfl
@[go_sem] theorem taz29 : azero Go.Proofs.Tryz.prog 29 = some [.list [] .full] := by kernel_rfl
@[go_sem] theorem tel29 : telem Go.Proofs.Tryz.prog 29 = some 43 := by kernel_rfl
@[go_sem] theorem tar29 : tarr Go.Proofs.Tryz.prog 29 = none := by kernel_rfl
@[go_sem] theorem tun29 : (Go.Proofs.Tryz.prog.underlying 29).isSome = true := by kernel_rfl
@[go_sem] theorem tsz30 : tsize Go.Proofs.Tryz.prog 30 = some 1 := by kernel_rfl
@[go_sem] theorem tby30 : tbytes Go.Proofs.Tryz.prog 30 = some 24 := by kernel_rfl
@[go_sem] theorem tag30 : tagg Go.Proofs.Tryz.prog 30 = some false := by kernel_rfl
@[go_sem] theorem tze30 : tzero Go.Proofs.Tryz.prog 30 = some (.list [] .full) := by kernel_rfl
@[go_sem] theorem taz30 : azero Go.Proofs.Tryz.prog 30 = some [.list [] .full] := by kernel_rfl
@[go_sem] theorem tel30 : telem Go.Proofs.Tryz.prog 30 = some 28 := by kernel_rfl
@[go_sem] theorem tar30 : tarr Go.Proofs.Tryz.prog 30 = none := by kernel_rfl
@[go_sem] theorem tun30 : (Go.Proofs.Tryz.prog.underlying 30).isSome = true := by kernel_rfl
@[go_sem] theorem tsz31 : tsize Go.Proofs.Tryz.prog 31 = some 2 := by kernel_rfl
@[go_sem] theorem tby31 : tbytes Go.Proofs.Tryz.prog 31 = some 48 := by kernel_rfl
@[go_sem] theorem tag31 : tagg Go.Proofs.Tryz.prog 31 = some true := by kernel_rfl
@[go_sem] theorem tze31 : tzero Go.Proofs.Tryz.prog 31 = some (.agg [.list [] .full, .list [] .full]) := by kernel_rfl
@[go_sem] theorem taz31 : azero Go.Proofs.Tryz.prog 31 = some [.list [] .full, .list [] .full] := by kernel_rfl
@[go_sem] theorem tar31 : tarr Go.Proofs.Tryz.prog 31 = none := by kernel_rfl
@[go_sem] theorem tfi31_0 : tfield Go.Proofs.Tryz.prog 31 0 = some (0, 30) := by kernel_rfl
@[go_sem] theorem tfi31_1 : tfield Go.Proofs.Tryz.prog 31 1 = some (1, 30) := by kernel_rfl
@[go_sem] theorem tpl31 : tplaces Go.Proofs.Tryz.prog 31 = some [(0, 1), (1, 1)] := by kernel_rfl
@[go_sem] theorem tun31 : (Go.Proofs.Tryz.prog.underlying 31).isSome = true := by kernel_rfl
@[go_sem] theorem tsz32 : tsize Go.Proofs.Tryz.prog 32 = some 2 := by kernel_rfl
@[go_sem] theorem tby32 : tbytes Go.Proofs.Tryz.prog 32 = some 48 := by kernel_rfl
@[go_sem] theorem tag32 : tagg Go.Proofs.Tryz.prog 32 = some true := by kernel_rfl
@[go_sem] theorem tze32 : tzero Go.Proofs.Tryz.prog 32 = some (.agg [.list [] .full, .list [] .full]) := by kernel_rfl
@[go_sem] theorem taz32 : azero Go.Proofs.Tryz.prog 32 = some [.list [] .full, .list [] .full] := by kernel_rfl
@[go_sem] theorem tar32 : tarr Go.Proofs.Tryz.prog 32 = none := by kernel_rfl
@[go_sem] theorem tfi32_0 : tfield Go.Proofs.Tryz.prog 32 0 = some (0, 30) := by kernel_rfl
@[go_sem] theorem tfi32_1 : tfield Go.Proofs.Tryz.prog 32 1 = some (1, 30) := by kernel_rfl
@[go_sem] theorem tpl32 : tplaces Go.Proofs.Tryz.prog 32 = some [(0, 1), (1, 1)] := by kernel_rfl
@[go_sem] theorem tun32 : (Go.Proofs.Tryz.prog.underlying 32).isSome = true := by kernel_rfl
@[go_sem] theorem tsz33 : tsize Go.Proofs.Tryz.prog 33 = some 3 := by kernel_rfl
@[go_sem] theorem tby33 : tbytes Go.Proofs.Tryz.prog 33 = some 72 := by kernel_rfl
@[go_sem] theorem tag33 : tagg Go.Proofs.Tryz.prog 33 = some true := by kernel_rfl
@[go_sem] theorem tze33 : tzero Go.Proofs.Tryz.prog 33 = some (.agg [.list [] .full, .list [] .full, .list [] .full]) := by kernel_rfl
@[go_sem] theorem taz33 : azero Go.Proofs.Tryz.prog 33 = some [.list [] .full, .list [] .full, .list [] .full] := by kernel_rfl
@[go_sem] theorem tar33 : tarr Go.Proofs.Tryz.prog 33 = none := by kernel_rfl
@[go_sem] theorem tfi33_0 : tfield Go.Proofs.Tryz.prog 33 0 = some (0, 29) := by kernel_rfl
@[go_sem] theorem tfi33_1 : tfield Go.Proofs.Tryz.prog 33 1 = some (1, 32) := by kernel_rfl
@[go_sem] theorem tpl33 : tplaces Go.Proofs.Tryz.prog 33 = some [(0, 1), (1, 2)] := by kernel_rfl
@[go_sem] theorem tun33 : (Go.Proofs.Tryz.prog.underlying 33).isSome = true := by kernel_rfl
@[go_sem] theorem tsz34 : tsize Go.Proofs.Tryz.prog 34 = some 3 := by kernel_rfl
@[go_sem] theorem tby34 : tbytes Go.Proofs.Tryz.prog 34 = some 72 := by kernel_rfl
@[go_sem] theorem tag34 : tagg Go.Proofs.Tryz.prog 34 = some true := by kernel_rfl
@[go_sem] theorem tze34 : tzero Go.Proofs.Tryz.prog 34 = some (.agg [.list [] .full, .list [] .full, .list [] .full]) := by kernel_rfl
@[go_sem] theorem taz34 : azero Go.Proofs.Tryz.prog 34 = some [.list [] .full, .list [] .full, .list [] .full] := by kernel_rfl
@[go_sem] theorem tar34 : tarr Go.Proofs.Tryz.prog 34 = none := by kernel_rfl
@[go_sem] theorem tfi34_0 : tfield Go.Proofs.Tryz.prog 34 0 = some (0, 29) := by kernel_rfl
@[go_sem] theorem tfi34_1 : tfield Go.Proofs.Tryz.prog 34 1 = some (1, 32) := by kernel_rfl
@[go_sem] theorem tpl34 : tplaces Go.Proofs.Tryz.prog 34 = some [(0, 1), (1, 2)] := by kernel_rfl
@[go_sem] theorem tun34 : (Go.Proofs.Tryz.prog.underlying 34).isSome = true := by kernel_rfl
@[go_sem] theorem tsz36 : tsize Go.Proofs.Tryz.prog 36 = some 1 := by kernel_rfl
@[go_sem] theorem tby36 : tbytes Go.Proofs.Tryz.prog 36 = some 8 := by kernel_rfl
@[go_sem] theorem tag36 : tagg Go.Proofs.Tryz.prog 36 = some false := by kernel_rfl
@[go_sem] theorem tze36 : tzero Go.Proofs.Tryz.prog 36 = some (.int .i64 0) := by kernel_rfl
@[go_sem] theorem taz36 : azero Go.Proofs.Tryz.prog 36 = some [.int .i64 0] := by kernel_rfl
@[go_sem] theorem tar36 : tarr Go.Proofs.Tryz.prog 36 = none := by kernel_rfl
@[go_sem] theorem tin36 : tint Go.Proofs.Tryz.prog 36 = some .i64 := by kernel_rfl
@[go_sem] theorem tun36 : (Go.Proofs.Tryz.prog.underlying 36).isSome = true := by kernel_rfl
@[go_sem] theorem tsz38 : tsize Go.Proofs.Tryz.prog 38 = some 4 := by kernel_rfl
@[go_sem] theorem tby38 : tbytes Go.Proofs.Tryz.prog 38 = some 40 := by kernel_rfl
@[go_sem] theorem tag38 : tagg Go.Proofs.Tryz.prog 38 = some true := by kernel_rfl
@[go_sem] theorem tze38 : tzero Go.Proofs.Tryz.prog 38 = some (.agg [.int .i64 0, .int .i64 0, .int .i64 0, .str []]) := by kernel_rfl
@[go_sem] theorem taz38 : azero Go.Proofs.Tryz.prog 38 = some [.int .i64 0, .int .i64 0, .int .i64 0, .str []] := by kernel_rfl
@[go_sem] theorem tar38 : tarr Go.Proofs.Tryz.prog 38 = none := by kernel_rfl
@[go_sem] theorem tfi38_0 : tfield Go.Proofs.Tryz.prog 38 0 = some (0, 3) := by kernel_rfl
@[go_sem] theorem tfi38_1 : tfield Go.Proofs.Tryz.prog 38 1 = some (1, 3) := by kernel_rfl
@[go_sem] theorem tfi38_2 : tfield Go.Proofs.Tryz.prog 38 2 = some (2, 3) := by kernel_rfl
@[go_sem] theorem tfi38_3 : tfield Go.Proofs.Tryz.prog 38 3 = some (3, 9) := by kernel_rfl
@[go_sem] theorem tpl38 : tplaces Go.Proofs.Tryz.prog 38 = some [(0, 1), (1, 1), (2, 1), (3, 1)] := by kernel_rfl
@[go_sem] theorem tun38 : (Go.Proofs.Tryz.prog.underlying 38).isSome = true := by kernel_rfl
@[go_sem] theorem tsz39 : tsize Go.Proofs.Tryz.prog 39 = some 4 := by kernel_rfl
@[go_sem] theorem tby39 : tbytes Go.Proofs.Tryz.prog 39 = some 40 := by kernel_rfl
@[go_sem] theorem tag39 : tagg Go.Proofs.Tryz.prog 39 = some true := by kernel_rfl
@[go_sem] theorem tze39 : tzero Go.Proofs.Tryz.prog 39 = some (.agg [.int .i64 0, .int .i64 0, .int .i64 0, .str []]) := by kernel_rfl
@[go_sem] theorem taz39 : azero Go.Proofs.Tryz.prog 39 = some [.int .i64 0, .int .i64 0, .int .i64 0, .str []] := by kernel_rfl
@[go_sem] theorem tar39 : tarr Go.Proofs.Tryz.prog 39 = none := by kernel_rfl
@[go_sem] theorem tfi39_0 : tfield Go.Proofs.Tryz.prog 39 0 = some (0, 3) := by kernel_rfl
@[go_sem] theorem tfi39_1 : tfield Go.Proofs.Tryz.prog 39 1 = some (1, 3) := by kernel_rfl
@[go_sem] theorem tfi39_2 : tfield Go.Proofs.Tryz.prog 39 2 = some (2, 3) := by kernel_rfl
@[go_sem] theorem tfi39_3 : tfield Go.Proofs.Tryz.prog 39 3 = some (3, 9) := by kernel_rfl
@[go_sem] theorem tpl39 : tplaces Go.Proofs.Tryz.prog 39 = some [(0, 1), (1, 1), (2, 1), (3, 1)] := by kernel_rfl
@[go_sem] theorem tun39 : (Go.Proofs.Tryz.prog.underlying 39).isSome = true := by kernel_rfl
@[go_sem] theorem tsz40 : tsize Go.Proofs.Tryz.prog 40 = some 1 := by kernel_rfl
@[go_sem] theorem tby40 : tbytes Go.Proofs.Tryz.prog 40 = some 8 := by kernel_rfl
@[go_sem] theorem tag40 : tagg Go.Proofs.Tryz.prog 40 = some false := by kernel_rfl
@[go_sem] theorem tze40 : tzero Go.Proofs.Tryz.prog 40 = some (.nilf) := by kernel_rfl
@[go_sem] theorem taz40 : azero Go.Proofs.Tryz.prog 40 = some [.nilf] := by kernel_rfl
@[go_sem] theorem tar40 : tarr Go.Proofs.Tryz.prog 40 = none := by kernel_rfl
@[go_sem] theorem tfu40 : tfunc Go.Proofs.Tryz.prog 40 = true := by kernel_rfl
@[go_sem] theorem tun40 : (Go.Proofs.Tryz.prog.underlying 40).isSome = true := by kernel_rfl
@[go_sem] theorem tsz42 : tsize Go.Proofs.Tryz.prog 42 = some 5 := by kernel_rfl
@[go_sem] theorem tby42 : tbytes Go.Proofs.Tryz.prog 42 = some 56 := by kernel_rfl
@[go_sem] theorem tag42 : tagg Go.Proofs.Tryz.prog 42 = some true := by kernel_rfl
@[go_sem] theorem tze42 : tzero Go.Proofs.Tryz.prog 42 = some (.agg [.int .i64 0, .int .i64 0, .str [], .str [], .int .i64 0]) := by kernel_rfl
@[go_sem] theorem taz42 : azero Go.Proofs.Tryz.prog 42 = some [.int .i64 0, .int .i64 0, .str [], .str [], .int .i64 0] := by kernel_rfl
@[go_sem] theorem tar42 : tarr Go.Proofs.Tryz.prog 42 = none := by kernel_rfl
@[go_sem] theorem tfi42_0 : tfield Go.Proofs.Tryz.prog 42 0 = some (0, 28) := by kernel_rfl
@[go_sem] theorem tfi42_1 : tfield Go.Proofs.Tryz.prog 42 1 = some (2, 9) := by kernel_rfl
@[go_sem] theorem tfi42_2 : tfield Go.Proofs.Tryz.prog 42 2 = some (3, 9) := by kernel_rfl
@[go_sem] theorem tfi42_3 : tfield Go.Proofs.Tryz.prog 42 3 = some (4, 3) := by kernel_rfl
@[go_sem] theorem tpl42 : tplaces Go.Proofs.Tryz.prog 42 = some [(0, 2), (2, 1), (3, 1), (4, 1)] := by kernel_rfl
@[go_sem] theorem tun42 : (Go.Proofs.Tryz.prog.underlying 42).isSome = true := by kernel_rfl
@[go_sem] theorem tsz43 : tsize Go.Proofs.Tryz.prog 43 = some 5 := by kernel_rfl
@[go_sem] theorem tby43 : tbytes Go.Proofs.Tryz.prog 43 = some 56 := by kernel_rfl
@[go_sem] theorem tag43 : tagg Go.Proofs.Tryz.prog 43 = some true := by kernel_rfl
@[go_sem] theorem tze43 : tzero Go.Proofs.Tryz.prog 43 = some (.agg [.int .i64 0, .int .i64 0, .str [], .str [], .int .i64 0]) := by kernel_rfl
@[go_sem] theorem taz43 : azero Go.Proofs.Tryz.prog 43 = some [.int .i64 0, .int .i64 0, .str [], .str [], .int .i64 0] := by kernel_rfl
@[go_sem] theorem tar43 : tarr Go.Proofs.Tryz.prog 43 = none := by kernel_rfl
@[go_sem] theorem tfi43_0 : tfield Go.Proofs.Tryz.prog 43 0 = some (0, 28) := by kernel_rfl
@[go_sem] theorem tfi43_1 : tfield Go.Proofs.Tryz.prog 43 1 = some (2, 9) := by kernel_rfl
@[go_sem] theorem tfi43_2 : tfield Go.Proofs.Tryz.prog 43 2 = some (3, 9) := by kernel_rfl
@[go_sem] theorem tfi43_3 : tfield Go.Proofs.Tryz.prog 43 3 = some (4, 3) := by kernel_rfl
@[go_sem] theorem tpl43 : tplaces Go.Proofs.Tryz.prog 43 = some [(0, 2), (2, 1), (3, 1), (4, 1)] := by kernel_rfl
@[go_sem] theorem tun43 : (Go.Proofs.Tryz.prog.underlying 43).isSome = true := by kernel_rfl
@[go_sem] theorem tsz44 : tsize Go.Proofs.Tryz.prog 44 = some 1 := by kernel_rfl
@[go_sem] theorem tby44 : tbytes Go.Proofs.Tryz.prog 44 = some 0 := by kernel_rfl
@[go_sem] theorem tag44 : tagg Go.Proofs.Tryz.prog 44 = some false := by kernel_rfl
@[go_sem] theorem tar44 : tarr Go.Proofs.Tryz.prog 44 = none := by kernel_rfl
@[go_sem] theorem tun44 : (Go.Proofs.Tryz.prog.underlying 44).isSome = true := by kernel_rfl
@[go_sem] theorem tsz47 : tsize Go.Proofs.Tryz.prog 47 = some 1 := by kernel_rfl
@[go_sem] theorem tby47 : tbytes Go.Proofs.Tryz.prog 47 = some 8 := by kernel_rfl
@[go_sem] theorem tag47 : tagg Go.Proofs.Tryz.prog 47 = some false := by kernel_rfl
@[go_sem] theorem tze47 : tzero Go.Proofs.Tryz.prog 47 = some (.nilp) := by kernel_rfl
@[go_sem] theorem taz47 : azero Go.Proofs.Tryz.prog 47 = some [.nilp] := by kernel_rfl
@[go_sem] theorem tar47 : tarr Go.Proofs.Tryz.prog 47 = none := by kernel_rfl
@[go_sem] theorem tpt47 : tptr Go.Proofs.Tryz.prog 47 = true := by kernel_rfl
@[go_sem] theorem tun47 : (Go.Proofs.Tryz.prog.underlying 47).isSome = true := by kernel_rfl
@[go_sem] theorem tsz48 : tsize Go.Proofs.Tryz.prog 48 = some 48 := by kernel_rfl
@[go_sem] theorem tby48 : tbytes Go.Proofs.Tryz.prog 48 = some 1152 := by kernel_rfl
@[go_sem] theorem tag48 : tagg Go.Proofs.Tryz.prog 48 = some true := by kernel_rfl
@[go_sem] theorem tze48 : tzero Go.Proofs.Tryz.prog 48 = some (.agg [.list [] .full, .list [] .full, .list [] .full, .list [] .full, .list [] .full, .list [] .full, .list [] .full, .list [] .full, .list [] .full, .list [] .full, .list [] .full, .list [] .full, .list [] .full, .list [] .full, .list [] .full, .list [] .full, .list [] .full, .list [] .full, .list [] .full, .list [] .full, .list [] .full, .list [] .full, .list [] .full, .list [] .full, .list [] .full, .list [] .full, .list [] .full, .list [] .full, .list [] .full, .list [] .full, .list [] .full, .list [] .full, .list [] .full, .list [] .full, .list [] .full, .list [] .full, .list [] .full, .list [] .full, .list [] .full, .list [] .full, .list [] .full, .list [] .full, .list [] .full, .list [] .full, .list [] .full, .list [] .full, .list [] .full, .list [] .full]) := by kernel_rfl
@[go_sem] theorem taz48 : azero Go.Proofs.Tryz.prog 48 = some [.list [] .full, .list [] .full, .list [] .full, .list [] .full, .list [] .full, .list [] .full, .list [] .full, .list [] .full, .list [] .full, .list [] .full, .list [] .full, .list [] .full, .list [] .full, .list [] .full, .list [] .full, .list [] .full, .list [] .full, .list [] .full, .list [] .full, .list [] .full, .list [] .full, .list [] .full, .list [] .full, .list [] .full, .list [] .full, .list [] .full, .list [] .full, .list [] .full, .list [] .full, .list [] .full, .list [] .full, .list [] .full, .list [] .full, .list [] .full, .list [] .full, .list [] .full, .list [] .full, .list [] .full, .list [] .full, .list [] .full, .list [] .full, .list [] .full, .list [] .full, .list [] .full, .list [] .full, .list [] .full, .list [] .full, .list [] .full] := by kernel_rfl
@[go_sem] theorem tar48 : tarr Go.Proofs.Tryz.prog 48 = some (16, 34) := by kernel_rfl
@[go_sem] theorem tun48 : (Go.Proofs.Tryz.prog.underlying 48).isSome = true := by kernel_rfl
@[go_sem] theorem tsz49 : tsize Go.Proofs.Tryz.prog 49 = some 1 := by kernel_rfl
@[go_sem] theorem tby49 : tbytes Go.Proofs.Tryz.prog 49 = some 24 := by kernel_rfl
@[go_sem] theorem tag49 : tagg Go.Proofs.Tryz.prog 49 = some false := by kernel_rfl
@[go_sem] theorem tze49 : tzero Go.Proofs.Tryz.prog 49 = some (.list [] .full) := by kernel_rfl
@[go_sem] theorem taz49 : azero Go.Proofs.Tryz.prog 49 = some [.list [] .full] := by kernel_rfl
@[go_sem] theorem tel49 : telem Go.Proofs.Tryz.prog 49 = some 85 := by kernel_rfl
@[go_sem] theorem tar49 : tarr Go.Proofs.Tryz.prog 49 = none := by kernel_rfl
@[go_sem] theorem tun49 : (Go.Proofs.Tryz.prog.underlying 49).isSome = true := by kernel_rfl
@[go_sem] theorem tsz50 : tsize Go.Proofs.Tryz.prog 50 = some 1 := by kernel_rfl
@[go_sem] theorem tby50 : tbytes Go.Proofs.Tryz.prog 50 = some 24 := by kernel_rfl
@[go_sem] theorem tag50 : tagg Go.Proofs.Tryz.prog 50 = some false := by kernel_rfl
@[go_sem] theorem tze50 : tzero Go.Proofs.Tryz.prog 50 = some (.list [] .full) := by kernel_rfl
@[go_sem] theorem taz50 : azero Go.Proofs.Tryz.prog 50 = some [.list [] .full] := by kernel_rfl
@[go_sem] theorem tel50 : telem Go.Proofs.Tryz.prog 50 = some 87 := by kernel_rfl
@[go_sem] theorem tar50 : tarr Go.Proofs.Tryz.prog 50 = none := by kernel_rfl
@[go_sem] theorem tun50 : (Go.Proofs.Tryz.prog.underlying 50).isSome = true := by kernel_rfl
@[go_sem] theorem tsz51 : tsize Go.Proofs.Tryz.prog 51 = some 1 := by kernel_rfl
@[go_sem] theorem tby51 : tbytes Go.Proofs.Tryz.prog 51 = some 24 := by kernel_rfl
@[go_sem] theorem tag51 : tagg Go.Proofs.Tryz.prog 51 = some false := by kernel_rfl
@[go_sem] theorem tze51 : tzero Go.Proofs.Tryz.prog 51 = some (.list [] .full) := by kernel_rfl
@[go_sem] theorem taz51 : azero Go.Proofs.Tryz.prog 51 = some [.list [] .full] := by kernel_rfl
@[go_sem] theorem tel51 : telem Go.Proofs.Tryz.prog 51 = some 89 := by kernel_rfl
@[go_sem] theorem tar51 : tarr Go.Proofs.Tryz.prog 51 = none := by kernel_rfl
@[go_sem] theorem tun51 : (Go.Proofs.Tryz.prog.underlying 51).isSome = true := by kernel_rfl
@[go_sem] theorem tsz52 : tsize Go.Proofs.Tryz.prog 52 = some 53 := by kernel_rfl
@[go_sem] theorem tby52 : tbytes Go.Proofs.Tryz.prog 52 = some 1240 := by kernel_rfl
@[go_sem] theorem tag52 : tagg Go.Proofs.Tryz.prog 52 = some true := by kernel_rfl
@[go_sem] theorem tze52 : tzero Go.Proofs.Tryz.prog 52 = some (.agg [.int .i64 0, .int .i64 0, .list [] .full, .list [] .full, .list [] .full, .list [] .full, .list [] .full, .list [] .full, .list [] .full, .list [] .full, .list [] .full, .list [] .full, .list [] .full, .list [] .full, .list [] .full, .list [] .full, .list [] .full, .list [] .full, .list [] .full, .list [] .full, .list [] .full, .list [] .full, .list [] .full, .list [] .full, .list [] .full, .list [] .full, .list [] .full, .list [] .full, .list [] .full, .list [] .full, .list [] .full, .list [] .full, .list [] .full, .list [] .full, .list [] .full, .list [] .full, .list [] .full, .list [] .full, .list [] .full, .list [] .full, .list [] .full, .list [] .full, .list [] .full, .list [] .full, .list [] .full, .list [] .full, .list [] .full, .list [] .full, .list [] .full, .list [] .full, .list [] .full, .list [] .full, .list [] .full]) := by kernel_rfl
@[go_sem] theorem taz52 : azero Go.Proofs.Tryz.prog 52 = some [.int .i64 0, .int .i64 0, .list [] .full, .list [] .full, .list [] .full, .list [] .full, .list [] .full, .list [] .full, .list [] .full, .list [] .full, .list [] .full, .list [] .full, .list [] .full, .list [] .full, .list [] .full, .list [] .full, .list [] .full, .list [] .full, .list [] .full, .list [] .full, .list [] .full, .list [] .full, .list [] .full, .list [] .full, .list [] .full, .list [] .full, .list [] .full, .list [] .full, .list [] .full, .list [] .full, .list [] .full, .list [] .full, .list [] .full, .list [] .full, .list [] .full, .list [] .full, .list [] .full, .list [] .full, .list [] .full, .list [] .full, .list [] .full, .list [] .full, .list [] .full, .list [] .full, .list [] .full, .list [] .full, .list [] .full, .list [] .full, .list [] .full, .list [] .full, .list [] .full, .list [] .full, .list [] .full] := by kernel_rfl
@[go_sem] theorem tar52 : tarr Go.Proofs.Tryz.prog 52 = none := by kernel_rfl
@[go_sem] theorem tfi52_0 : tfield Go.Proofs.Tryz.prog 52 0 = some (0, 3) := by kernel_rfl
@[go_sem] theorem tfi52_1 : tfield Go.Proofs.Tryz.prog 52 1 = some (1, 3) := by kernel_rfl
@[go_sem] theorem tfi52_2 : tfield Go.Proofs.Tryz.prog 52 2 = some (2, 48) := by kernel_rfl
@[go_sem] theorem tfi52_3 : tfield Go.Proofs.Tryz.prog 52 3 = some (50, 49) := by kernel_rfl
@[go_sem] theorem tfi52_4 : tfield Go.Proofs.Tryz.prog 52 4 = some (51, 50) := by kernel_rfl
@[go_sem] theorem tfi52_5 : tfield Go.Proofs.Tryz.prog 52 5 = some (52, 51) := by kernel_rfl
@[go_sem] theorem tpl52 : tplaces Go.Proofs.Tryz.prog 52 = some [(0, 1), (1, 1), (2, 48), (50, 1), (51, 1), (52, 1)] := by kernel_rfl
@[go_sem] theorem tun52 : (Go.Proofs.Tryz.prog.underlying 52).isSome = true := by kernel_rfl
@[go_sem] theorem tsz53 : tsize Go.Proofs.Tryz.prog 53 = some 53 := by kernel_rfl
@[go_sem] theorem tby53 : tbytes Go.Proofs.Tryz.prog 53 = some 1240 := by kernel_rfl
@[go_sem] theorem tag53 : tagg Go.Proofs.Tryz.prog 53 = some true := by kernel_rfl
@[go_sem] theorem tze53 : tzero Go.Proofs.Tryz.prog 53 = some (.agg [.int .i64 0, .int .i64 0, .list [] .full, .list [] .full, .list [] .full, .list [] .full, .list [] .full, .list [] .full, .list [] .full, .list [] .full, .list [] .full, .list [] .full, .list [] .full, .list [] .full, .list [] .full, .list [] .full, .list [] .full, .list [] .full, .list [] .full, .list [] .full, .list [] .full, .list [] .full, .list [] .full, .list [] .full, .list [] .full, .list [] .full, .list [] .full, .list [] .full, .list [] .full, .list [] .full, .list [] .full, .list [] .full, .list [] .full, .list [] .full, .list [] .full, .list [] .full, .list [] .full, .list [] .full, .list [] .full, .list [] .full, .list [] .full, .list [] .full, .list [] .full, .list [] .full, .list [] .full, .list [] .full, .list [] .full, .list [] .full, .list [] .full, .list [] .full, .list [] .full, .list [] .full, .list [] .full]) := by kernel_rfl
@[go_sem] theorem taz53 : azero Go.Proofs.Tryz.prog 53 = some [.int .i64 0, .int .i64 0, .list [] .full, .list [] .full, .list [] .full, .list [] .full, .list [] .full, .list [] .full, .list [] .full, .list [] .full, .list [] .full, .list [] .full, .list [] .full, .list [] .full, .list [] .full, .list [] .full, .list [] .full, .list [] .full, .list [] .full, .list [] .full, .list [] .full, .list [] .full, .list [] .full, .list [] .full, .list [] .full, .list [] .full, .list [] .full, .list [] .full, .list [] .full, .list [] .full, .list [] .full, .list [] .full, .list [] .full, .list [] .full, .list [] .full, .list [] .full, .list [] .full, .list [] .full, .list [] .full, .list [] .full, .list [] .full, .list [] .full, .list [] .full, .list [] .full, .list [] .full, .list [] .full, .list [] .full, .list [] .full, .list [] .full, .list [] .full, .list [] .full, .list [] .full, .list [] .full] := by kernel_rfl
@[go_sem] theorem tar53 : tarr Go.Proofs.Tryz.prog 53 = none := by kernel_rfl
@[go_sem] theorem tfi53_0 : tfield Go.Proofs.Tryz.prog 53 0 = some (0, 3) := by kernel_rfl
@[go_sem] theorem tfi53_1 : tfield Go.Proofs.Tryz.prog 53 1 = some (1, 3) := by kernel_rfl
@[go_sem] theorem tfi53_2 : tfield Go.Proofs.Tryz.prog 53 2 = some (2, 48) := by kernel_rfl
@[go_sem] theorem tfi53_3 : tfield Go.Proofs.Tryz.prog 53 3 = some (50, 49) := by kernel_rfl
@[go_sem] theorem tfi53_4 : tfield Go.Proofs.Tryz.prog 53 4 = some (51, 50) := by kernel_rfl
@[go_sem] theorem tfi53_5 : tfield Go.Proofs.Tryz.prog 53 5 = some (52, 51) := by kernel_rfl
@[go_sem] theorem tpl53 : tplaces Go.Proofs.Tryz.prog 53 = some [(0, 1), (1, 1), (2, 48), (50, 1), (51, 1), (52, 1)] := by kernel_rfl
@[go_sem] theorem tun53 : (Go.Proofs.Tryz.prog.underlying 53).isSome = true := by kernel_rfl
@[go_sem] theorem tsz60 : tsize Go.Proofs.Tryz.prog 60 = some 1 := by kernel_rfl
@[go_sem] theorem tby60 : tbytes Go.Proofs.Tryz.prog 60 = some 24 := by kernel_rfl
@[go_sem] theorem tag60 : tagg Go.Proofs.Tryz.prog 60 = some false := by kernel_rfl
@[go_sem] theorem tze60 : tzero Go.Proofs.Tryz.prog 60 = some (.list [] .full) := by kernel_rfl
@[go_sem] theorem taz60 : azero Go.Proofs.Tryz.prog 60 = some [.list [] .full] := by kernel_rfl
@[go_sem] theorem tel60 : telem Go.Proofs.Tryz.prog 60 = some 3 := by kernel_rfl
@[go_sem] theorem tar60 : tarr Go.Proofs.Tryz.prog 60 = none := by kernel_rfl
@[go_sem] theorem tun60 : (Go.Proofs.Tryz.prog.underlying 60).isSome = true := by kernel_rfl
@[go_sem] theorem tsz61 : tsize Go.Proofs.Tryz.prog 61 = some 1 := by kernel_rfl
@[go_sem] theorem tby61 : tbytes Go.Proofs.Tryz.prog 61 = some 24 := by kernel_rfl
@[go_sem] theorem tag61 : tagg Go.Proofs.Tryz.prog 61 = some false := by kernel_rfl
@[go_sem] theorem tze61 : tzero Go.Proofs.Tryz.prog 61 = some (.list [] .full) := by kernel_rfl
@[go_sem] theorem taz61 : azero Go.Proofs.Tryz.prog 61 = some [.list [] .full] := by kernel_rfl
@[go_sem] theorem tel61 : telem Go.Proofs.Tryz.prog 61 = some 9 := by kernel_rfl
@[go_sem] theorem tar61 : tarr Go.Proofs.Tryz.prog 61 = none := by kernel_rfl
@[go_sem] theorem tun61 : (Go.Proofs.Tryz.prog.underlying 61).isSome = true := by kernel_rfl
@[go_sem] theorem tsz67 : tsize Go.Proofs.Tryz.prog 67 = some 1 := by kernel_rfl
@[go_sem] theorem tby67 : tbytes Go.Proofs.Tryz.prog 67 = some 0 := by kernel_rfl
@[go_sem] theorem tag67 : tagg Go.Proofs.Tryz.prog 67 = some false := by kernel_rfl
@[go_sem] theorem tar67 : tarr Go.Proofs.Tryz.prog 67 = none := by kernel_rfl
@[go_sem] theorem tun67 : (Go.Proofs.Tryz.prog.underlying 67).isSome = true := by kernel_rfl
@[go_sem] theorem tsz69 : tsize Go.Proofs.Tryz.prog 69 = some 1 := by kernel_rfl
@[go_sem] theorem tby69 : tbytes Go.Proofs.Tryz.prog 69 = some 0 := by kernel_rfl
@[go_sem] theorem tag69 : tagg Go.Proofs.Tryz.prog 69 = some false := by kernel_rfl
@[go_sem] theorem tar69 : tarr Go.Proofs.Tryz.prog 69 = none := by kernel_rfl
@[go_sem] theorem tun69 : (Go.Proofs.Tryz.prog.underlying 69).isSome = true := by kernel_rfl
@[go_sem] theorem tsz72 : tsize Go.Proofs.Tryz.prog 72 = some 53 := by kernel_rfl
@[go_sem] theorem tby72 : tbytes Go.Proofs.Tryz.prog 72 = some 1240 := by kernel_rfl
@[go_sem] theorem tag72 : tagg Go.Proofs.Tryz.prog 72 = some true := by kernel_rfl
@[go_sem] theorem tze72 : tzero Go.Proofs.Tryz.prog 72 = some (.agg [.int .i64 0, .int .i64 0, .list [] .full, .list [] .full, .list [] .full, .list [] .full, .list [] .full, .list [] .full, .list [] .full, .list [] .full, .list [] .full, .list [] .full, .list [] .full, .list [] .full, .list [] .full, .list [] .full, .list [] .full, .list [] .full, .list [] .full, .list [] .full, .list [] .full, .list [] .full, .list [] .full, .list [] .full, .list [] .full, .list [] .full, .list [] .full, .list [] .full, .list [] .full, .list [] .full, .list [] .full, .list [] .full, .list [] .full, .list [] .full, .list [] .full, .list [] .full, .list [] .full, .list [] .full, .list [] .full, .list [] .full, .list [] .full, .list [] .full, .list [] .full, .list [] .full, .list [] .full, .list [] .full, .list [] .full, .list [] .full, .list [] .full, .list [] .full, .list [] .full, .list [] .full, .list [] .full]) := by kernel_rfl
@[go_sem] theorem taz72 : azero Go.Proofs.Tryz.prog 72 = some [.int .i64 0, .int .i64 0, .list [] .full, .list [] .full, .list [] .full, .list [] .full, .list [] .full, .list [] .full, .list [] .full, .list [] .full, .list [] .full, .list [] .full, .list [] .full, .list [] .full, .list [] .full, .list [] .full, .list [] .full, .list [] .full, .list [] .full, .list [] .full, .list [] .full, .list [] .full, .list [] .full, .list [] .full, .list [] .full, .list [] .full, .list [] .full, .list [] .full, .list [] .full, .list [] .full, .list [] .full, .list [] .full, .list [] .full, .list [] .full, .list [] .full, .list [] .full, .list [] .full, .list [] .full, .list [] .full, .list [] .full, .list [] .full, .list [] .full, .list [] .full, .list [] .full, .list [] .full, .list [] .full, .list [] .full, .list [] .full, .list [] .full, .list [] .full, .list [] .full, .list [] .full, .list [] .full] := by kernel_rfl
@[go_sem] theorem tar72 : tarr Go.Proofs.Tryz.prog 72 = none := by kernel_rfl
@[go_sem] theorem tfi72_0 : tfield Go.Proofs.Tryz.prog 72 0 = some (0, 3) := by kernel_rfl
@[go_sem] theorem tfi72_1 : tfield Go.Proofs.Tryz.prog 72 1 = some (1, 3) := by kernel_rfl
@[go_sem] theorem tfi72_2 : tfield Go.Proofs.Tryz.prog 72 2 = some (2, 48) := by kernel_rfl
@[go_sem] theorem tfi72_3 : tfield Go.Proofs.Tryz.prog 72 3 = some (50, 49) := by kernel_rfl
@[go_sem] theorem tfi72_4 : tfield Go.Proofs.Tryz.prog 72 4 = some (51, 50) := by kernel_rfl
@[go_sem] theorem tfi72_5 : tfield Go.Proofs.Tryz.prog 72 5 = some (52, 51) := by kernel_rfl
@[go_sem] theorem tpl72 : tplaces Go.Proofs.Tryz.prog 72 = some [(0, 1), (1, 1), (2, 48), (50, 1), (51, 1), (52, 1)] := by kernel_rfl
@[go_sem] theorem tun72 : (Go.Proofs.Tryz.prog.underlying 72).isSome = true := by kernel_rfl
@[go_sem] theorem tsz73 : tsize Go.Proofs.Tryz.prog 73 = some 53 := by kernel_rfl
@[go_sem] theorem tby73 : tbytes Go.Proofs.Tryz.prog 73 = some 1240 := by kernel_rfl
@[go_sem] theorem tag73 : tagg Go.Proofs.Tryz.prog 73 = some true := by kernel_rfl
@[go_sem] theorem tze73 : tzero Go.Proofs.Tryz.prog 73 = some (.agg [.int .i64 0, .int .i64 0, .list [] .full, .list [] .full, .list [] .full, .list [] .full, .list [] .full, .list [] .full, .list [] .full, .list [] .full, .list [] .full, .list [] .full, .list [] .full, .list [] .full, .list [] .full, .list [] .full, .list [] .full, .list [] .full, .list [] .full, .list [] .full, .list [] .full, .list [] .full, .list [] .full, .list [] .full, .list [] .full, .list [] .full, .list [] .full, .list [] .full, .list [] .full, .list [] .full, .list [] .full, .list [] .full, .list [] .full, .list [] .full, .list [] .full, .list [] .full, .list [] .full, .list [] .full, .list [] .full, .list [] .full, .list [] .full, .list [] .full, .list [] .full, .list [] .full, .list [] .full, .list [] .full, .list [] .full, .list [] .full, .list [] .full, .list [] .full, .list [] .full, .list [] .full, .list [] .full]) := by kernel_rfl
@[go_sem] theorem taz73 : azero Go.Proofs.Tryz.prog 73 = some [.int .i64 0, .int .i64 0, .list [] .full, .list [] .full, .list [] .full, .list [] .full, .list [] .full, .list [] .full, .list [] .full, .list [] .full, .list [] .full, .list [] .full, .list [] .full, .list [] .full, .list [] .full, .list [] .full, .list [] .full, .list [] .full, .list [] .full, .list [] .full, .list [] .full, .list [] .full, .list [] .full, .list [] .full, .list [] .full, .list [] .full, .list [] .full, .list [] .full, .list [] .full, .list [] .full, .list [] .full, .list [] .full, .list [] .full, .list [] .full, .list [] .full, .list [] .full, .list [] .full, .list [] .full, .list [] .full, .list [] .full, .list [] .full, .list [] .full, .list [] .full, .list [] .full, .list [] .full, .list [] .full, .list [] .full, .list [] .full, .list [] .full, .list [] .full, .list [] .full, .list [] .full, .list [] .full] := by kernel_rfl
@[go_sem] theorem tar73 : tarr Go.Proofs.Tryz.prog 73 = none := by kernel_rfl
@[go_sem] theorem tfi73_0 : tfield Go.Proofs.Tryz.prog 73 0 = some (0, 3) := by kernel_rfl
@[go_sem] theorem tfi73_1 : tfield Go.Proofs.Tryz.prog 73 1 = some (1, 3) := by kernel_rfl
@[go_sem] theorem tfi73_2 : tfield Go.Proofs.Tryz.prog 73 2 = some (2, 48) := by kernel_rfl
@[go_sem] theorem tfi73_3 : tfield Go.Proofs.Tryz.prog 73 3 = some (50, 49) := by kernel_rfl
@[go_sem] theorem tfi73_4 : tfield Go.Proofs.Tryz.prog 73 4 = some (51, 50) := by kernel_rfl
@[go_sem] theorem tfi73_5 : tfield Go.Proofs.Tryz.prog 73 5 = some (52, 51) := by kernel_rfl
@[go_sem] theorem tpl73 : tplaces Go.Proofs.Tryz.prog 73 = some [(0, 1), (1, 1), (2, 48), (50, 1), (51, 1), (52, 1)] := by kernel_rfl
@[go_sem] theorem tun73 : (Go.Proofs.Tryz.prog.underlying 73).isSome = true := by kernel_rfl
@[go_sem] theorem tsz76 : tsize Go.Proofs.Tryz.prog 76 = some 1 := by kernel_rfl
@[go_sem] theorem tby76 : tbytes Go.Proofs.Tryz.prog 76 = some 8 := by kernel_rfl
@[go_sem] theorem tag76 : tagg Go.Proofs.Tryz.prog 76 = some false := by kernel_rfl
@[go_sem] theorem tze76 : tzero Go.Proofs.Tryz.prog 76 = some (.nilp) := by kernel_rfl
@[go_sem] theorem taz76 : azero Go.Proofs.Tryz.prog 76 = some [.nilp] := by kernel_rfl
@[go_sem] theorem tar76 : tarr Go.Proofs.Tryz.prog 76 = none := by kernel_rfl
@[go_sem] theorem tpt76 : tptr Go.Proofs.Tryz.prog 76 = true := by kernel_rfl
@[go_sem] theorem tun76 : (Go.Proofs.Tryz.prog.underlying 76).isSome = true := by kernel_rfl
@[go_sem] theorem tsz80 : tsize Go.Proofs.Tryz.prog 80 = some 1 := by kernel_rfl
@[go_sem] theorem tby80 : tbytes Go.Proofs.Tryz.prog 80 = some 0 := by kernel_rfl
@[go_sem] theorem tag80 : tagg Go.Proofs.Tryz.prog 80 = some false := by kernel_rfl
@[go_sem] theorem tar80 : tarr Go.Proofs.Tryz.prog 80 = none := by kernel_rfl
@[go_sem] theorem tun80 : (Go.Proofs.Tryz.prog.underlying 80).isSome = true := by kernel_rfl
@[go_sem] theorem tsz83 : tsize Go.Proofs.Tryz.prog 83 = some 1 := by kernel_rfl
@[go_sem] theorem tby83 : tbytes Go.Proofs.Tryz.prog 83 = some 24 := by kernel_rfl
@[go_sem] theorem tag83 : tagg Go.Proofs.Tryz.prog 83 = some false := by kernel_rfl
@[go_sem] theorem tze83 : tzero Go.Proofs.Tryz.prog 83 = some (.list [] .full) := by kernel_rfl
@[go_sem] theorem taz83 : azero Go.Proofs.Tryz.prog 83 = some [.list [] .full] := by kernel_rfl
@[go_sem] theorem tel83 : telem Go.Proofs.Tryz.prog 83 = some 5 := by kernel_rfl
@[go_sem] theorem tar83 : tarr Go.Proofs.Tryz.prog 83 = none := by kernel_rfl
@[go_sem] theorem tun83 : (Go.Proofs.Tryz.prog.underlying 83).isSome = true := by kernel_rfl
@[go_sem] theorem tsz84 : tsize Go.Proofs.Tryz.prog 84 = some 2 := by kernel_rfl
@[go_sem] theorem tby84 : tbytes Go.Proofs.Tryz.prog 84 = some 24 := by kernel_rfl
@[go_sem] theorem tag84 : tagg Go.Proofs.Tryz.prog 84 = some true := by kernel_rfl
@[go_sem] theorem tze84 : tzero Go.Proofs.Tryz.prog 84 = some (.agg [.str [], .int .i64 0]) := by kernel_rfl
@[go_sem] theorem taz84 : azero Go.Proofs.Tryz.prog 84 = some [.str [], .int .i64 0] := by kernel_rfl
@[go_sem] theorem tar84 : tarr Go.Proofs.Tryz.prog 84 = none := by kernel_rfl
@[go_sem] theorem tfi84_0 : tfield Go.Proofs.Tryz.prog 84 0 = some (0, 9) := by kernel_rfl
@[go_sem] theorem tfi84_1 : tfield Go.Proofs.Tryz.prog 84 1 = some (1, 3) := by kernel_rfl
@[go_sem] theorem tpl84 : tplaces Go.Proofs.Tryz.prog 84 = some [(0, 1), (1, 1)] := by kernel_rfl
@[go_sem] theorem tun84 : (Go.Proofs.Tryz.prog.underlying 84).isSome = true := by kernel_rfl
@[go_sem] theorem tsz85 : tsize Go.Proofs.Tryz.prog 85 = some 2 := by kernel_rfl
@[go_sem] theorem tby85 : tbytes Go.Proofs.Tryz.prog 85 = some 24 := by kernel_rfl
@[go_sem] theorem tag85 : tagg Go.Proofs.Tryz.prog 85 = some true := by kernel_rfl
@[go_sem] theorem tze85 : tzero Go.Proofs.Tryz.prog 85 = some (.agg [.str [], .int .i64 0]) := by kernel_rfl
@[go_sem] theorem taz85 : azero Go.Proofs.Tryz.prog 85 = some [.str [], .int .i64 0] := by kernel_rfl
@[go_sem] theorem tar85 : tarr Go.Proofs.Tryz.prog 85 = none := by kernel_rfl
@[go_sem] theorem tfi85_0 : tfield Go.Proofs.Tryz.prog 85 0 = some (0, 9) := by kernel_rfl
@[go_sem] theorem tfi85_1 : tfield Go.Proofs.Tryz.prog 85 1 = some (1, 3) := by kernel_rfl
@[go_sem] theorem tpl85 : tplaces Go.Proofs.Tryz.prog 85 = some [(0, 1), (1, 1)] := by kernel_rfl
@[go_sem] theorem tun85 : (Go.Proofs.Tryz.prog.underlying 85).isSome = true := by kernel_rfl
@[go_sem] theorem tsz86 : tsize Go.Proofs.Tryz.prog 86 = some 3 := by kernel_rfl
@[go_sem] theorem tby86 : tbytes Go.Proofs.Tryz.prog 86 = some 24 := by kernel_rfl
@[go_sem] theorem tag86 : tagg Go.Proofs.Tryz.prog 86 = some true := by kernel_rfl
@[go_sem] theorem tze86 : tzero Go.Proofs.Tryz.prog 86 = some (.agg [.int .i64 0, .int .i64 0, .int .i64 0]) := by kernel_rfl
@[go_sem] theorem taz86 : azero Go.Proofs.Tryz.prog 86 = some [.int .i64 0, .int .i64 0, .int .i64 0] := by kernel_rfl
@[go_sem] theorem tar86 : tarr Go.Proofs.Tryz.prog 86 = none := by kernel_rfl
@[go_sem] theorem tfi86_0 : tfield Go.Proofs.Tryz.prog 86 0 = some (0, 3) := by kernel_rfl
@[go_sem] theorem tfi86_1 : tfield Go.Proofs.Tryz.prog 86 1 = some (1, 3) := by kernel_rfl
@[go_sem] theorem tfi86_2 : tfield Go.Proofs.Tryz.prog 86 2 = some (2, 3) := by kernel_rfl
@[go_sem] theorem tpl86 : tplaces Go.Proofs.Tryz.prog 86 = some [(0, 1), (1, 1), (2, 1)] := by kernel_rfl
@[go_sem] theorem tun86 : (Go.Proofs.Tryz.prog.underlying 86).isSome = true := by kernel_rfl
@[go_sem] theorem tsz87 : tsize Go.Proofs.Tryz.prog 87 = some 3 := by kernel_rfl
@[go_sem] theorem tby87 : tbytes Go.Proofs.Tryz.prog 87 = some 24 := by kernel_rfl
@[go_sem] theorem tag87 : tagg Go.Proofs.Tryz.prog 87 = some true := by kernel_rfl
@[go_sem] theorem tze87 : tzero Go.Proofs.Tryz.prog 87 = some (.agg [.int .i64 0, .int .i64 0, .int .i64 0]) := by kernel_rfl
@[go_sem] theorem taz87 : azero Go.Proofs.Tryz.prog 87 = some [.int .i64 0, .int .i64 0, .int .i64 0] := by kernel_rfl
@[go_sem] theorem tar87 : tarr Go.Proofs.Tryz.prog 87 = none := by kernel_rfl
@[go_sem] theorem tfi87_0 : tfield Go.Proofs.Tryz.prog 87 0 = some (0, 3) := by kernel_rfl
@[go_sem] theorem tfi87_1 : tfield Go.Proofs.Tryz.prog 87 1 = some (1, 3) := by kernel_rfl
@[go_sem] theorem tfi87_2 : tfield Go.Proofs.Tryz.prog 87 2 = some (2, 3) := by kernel_rfl
@[go_sem] theorem tpl87 : tplaces Go.Proofs.Tryz.prog 87 = some [(0, 1), (1, 1), (2, 1)] := by kernel_rfl
@[go_sem] theorem tun87 : (Go.Proofs.Tryz.prog.underlying 87).isSome = true := by kernel_rfl
@[go_sem] theorem tsz88 : tsize Go.Proofs.Tryz.prog 88 = some 4 := by kernel_rfl
@[go_sem] theorem tby88 : tbytes Go.Proofs.Tryz.prog 88 = some 32 := by kernel_rfl
@[go_sem] theorem tag88 : tagg Go.Proofs.Tryz.prog 88 = some true := by kernel_rfl
@[go_sem] theorem tze88 : tzero Go.Proofs.Tryz.prog 88 = some (.agg [.int .i64 0, .int .i64 0, .int .i64 0, .int .i64 0]) := by kernel_rfl
@[go_sem] theorem taz88 : azero Go.Proofs.Tryz.prog 88 = some [.int .i64 0, .int .i64 0, .int .i64 0, .int .i64 0] := by kernel_rfl
@[go_sem] theorem tar88 : tarr Go.Proofs.Tryz.prog 88 = none := by kernel_rfl
@[go_sem] theorem tfi88_0 : tfield Go.Proofs.Tryz.prog 88 0 = some (0, 28) := by kernel_rfl
@[go_sem] theorem tfi88_1 : tfield Go.Proofs.Tryz.prog 88 1 = some (2, 3) := by kernel_rfl
@[go_sem] theorem tfi88_2 : tfield Go.Proofs.Tryz.prog 88 2 = some (3, 3) := by kernel_rfl
@[go_sem] theorem tpl88 : tplaces Go.Proofs.Tryz.prog 88 = some [(0, 2), (2, 1), (3, 1)] := by kernel_rfl
@[go_sem] theorem tun88 : (Go.Proofs.Tryz.prog.underlying 88).isSome = true := by kernel_rfl
@[go_sem] theorem tsz89 : tsize Go.Proofs.Tryz.prog 89 = some 4 := by kernel_rfl
@[go_sem] theorem tby89 : tbytes Go.Proofs.Tryz.prog 89 = some 32 := by kernel_rfl
@[go_sem] theorem tag89 : tagg Go.Proofs.Tryz.prog 89 = some true := by kernel_rfl
@[go_sem] theorem tze89 : tzero Go.Proofs.Tryz.prog 89 = some (.agg [.int .i64 0, .int .i64 0, .int .i64 0, .int .i64 0]) := by kernel_rfl
@[go_sem] theorem taz89 : azero Go.Proofs.Tryz.prog 89 = some [.int .i64 0, .int .i64 0, .int .i64 0, .int .i64 0] := by kernel_rfl
@[go_sem] theorem tar89 : tarr Go.Proofs.Tryz.prog 89 = none := by kernel_rfl
@[go_sem] theorem tfi89_0 : tfield Go.Proofs.Tryz.prog 89 0 = some (0, 28) := by kernel_rfl
@[go_sem] theorem tfi89_1 : tfield Go.Proofs.Tryz.prog 89 1 = some (2, 3) := by kernel_rfl
@[go_sem] theorem tfi89_2 : tfield Go.Proofs.Tryz.prog 89 2 = some (3, 3) := by kernel_rfl
@[go_sem] theorem tpl89 : tplaces Go.Proofs.Tryz.prog 89 = some [(0, 2), (2, 1), (3, 1)] := by kernel_rfl
@[go_sem] theorem tun89 : (Go.Proofs.Tryz.prog.underlying 89).isSome = true := by kernel_rfl
@[go_sem] theorem tsz91 : tsize Go.Proofs.Tryz.prog 91 = some 1 := by kernel_rfl
@[go_sem] theorem tby91 : tbytes Go.Proofs.Tryz.prog 91 = some 8 := by kernel_rfl
@[go_sem] theorem tag91 : tagg Go.Proofs.Tryz.prog 91 = some false := by kernel_rfl
@[go_sem] theorem tze91 : tzero Go.Proofs.Tryz.prog 91 = some (.nilp) := by kernel_rfl
@[go_sem] theorem taz91 : azero Go.Proofs.Tryz.prog 91 = some [.nilp] := by kernel_rfl
@[go_sem] theorem tar91 : tarr Go.Proofs.Tryz.prog 91 = none := by kernel_rfl
@[go_sem] theorem tpt91 : tptr Go.Proofs.Tryz.prog 91 = true := by kernel_rfl
@[go_sem] theorem tun91 : (Go.Proofs.Tryz.prog.underlying 91).isSome = true := by kernel_rfl
@[go_sem] theorem tsz92 : tsize Go.Proofs.Tryz.prog 92 = some 2 := by kernel_rfl
@[go_sem] theorem tby92 : tbytes Go.Proofs.Tryz.prog 92 = some 24 := by kernel_rfl
@[go_sem] theorem tag92 : tagg Go.Proofs.Tryz.prog 92 = some true := by kernel_rfl
@[go_sem] theorem tze92 : tzero Go.Proofs.Tryz.prog 92 = some (.agg [.str [], .bool false]) := by kernel_rfl
@[go_sem] theorem taz92 : azero Go.Proofs.Tryz.prog 92 = some [.str [], .bool false] := by kernel_rfl
@[go_sem] theorem tar92 : tarr Go.Proofs.Tryz.prog 92 = none := by kernel_rfl
@[go_sem] theorem tfi92_0 : tfield Go.Proofs.Tryz.prog 92 0 = some (0, 9) := by kernel_rfl
@[go_sem] theorem tfi92_1 : tfield Go.Proofs.Tryz.prog 92 1 = some (1, 4) := by kernel_rfl
@[go_sem] theorem tpl92 : tplaces Go.Proofs.Tryz.prog 92 = some [(0, 1), (1, 1)] := by kernel_rfl
@[go_sem] theorem tun92 : (Go.Proofs.Tryz.prog.underlying 92).isSome = true := by kernel_rfl
@[go_sem] theorem tsz93 : tsize Go.Proofs.Tryz.prog 93 = some 2 := by kernel_rfl
@[go_sem] theorem tby93 : tbytes Go.Proofs.Tryz.prog 93 = some 24 := by kernel_rfl
@[go_sem] theorem tag93 : tagg Go.Proofs.Tryz.prog 93 = some true := by kernel_rfl
@[go_sem] theorem tze93 : tzero Go.Proofs.Tryz.prog 93 = some (.agg [.str [], .bool false]) := by kernel_rfl
@[go_sem] theorem taz93 : azero Go.Proofs.Tryz.prog 93 = some [.str [], .bool false] := by kernel_rfl
@[go_sem] theorem tar93 : tarr Go.Proofs.Tryz.prog 93 = none := by kernel_rfl
@[go_sem] theorem tfi93_0 : tfield Go.Proofs.Tryz.prog 93 0 = some (0, 9) := by kernel_rfl
@[go_sem] theorem tfi93_1 : tfield Go.Proofs.Tryz.prog 93 1 = some (1, 4) := by kernel_rfl
@[go_sem] theorem tpl93 : tplaces Go.Proofs.Tryz.prog 93 = some [(0, 1), (1, 1)] := by kernel_rfl
@[go_sem] theorem tun93 : (Go.Proofs.Tryz.prog.underlying 93).isSome = true := by kernel_rfl
@[go_sem] theorem tsz103 : tsize Go.Proofs.Tryz.prog 103 = some 1 := by kernel_rfl
@[go_sem] theorem tby103 : tbytes Go.Proofs.Tryz.prog 103 = some 8 := by kernel_rfl
@[go_sem] theorem tag103 : tagg Go.Proofs.Tryz.prog 103 = some false := by kernel_rfl
@[go_sem] theorem tze103 : tzero Go.Proofs.Tryz.prog 103 = some (.nilf) := by kernel_rfl
@[go_sem] theorem taz103 : azero Go.Proofs.Tryz.prog 103 = some [.nilf] := by kernel_rfl
@[go_sem] theorem tar103 : tarr Go.Proofs.Tryz.prog 103 = none := by kernel_rfl
@[go_sem] theorem tfu103 : tfunc Go.Proofs.Tryz.prog 103 = true := by kernel_rfl
@[go_sem] theorem tun103 : (Go.Proofs.Tryz.prog.underlying 103).isSome = true := by kernel_rfl
@[go_sem] theorem tsz111 : tsize Go.Proofs.Tryz.prog 111 = some 2 := by kernel_rfl
@[go_sem] theorem tby111 : tbytes Go.Proofs.Tryz.prog 111 = some 24 := by kernel_rfl
@[go_sem] theorem tag111 : tagg Go.Proofs.Tryz.prog 111 = some true := by kernel_rfl
@[go_sem] theorem tze111 : tzero Go.Proofs.Tryz.prog 111 = some (.agg [.str [], .bool false]) := by kernel_rfl
@[go_sem] theorem taz111 : azero Go.Proofs.Tryz.prog 111 = some [.str [], .bool false] := by kernel_rfl
@[go_sem] theorem tar111 : tarr Go.Proofs.Tryz.prog 111 = none := by kernel_rfl
@[go_sem] theorem tfi111_0 : tfield Go.Proofs.Tryz.prog 111 0 = some (0, 9) := by kernel_rfl
@[go_sem] theorem tfi111_1 : tfield Go.Proofs.Tryz.prog 111 1 = some (1, 4) := by kernel_rfl
@[go_sem] theorem tpl111 : tplaces Go.Proofs.Tryz.prog 111 = some [(0, 1), (1, 1)] := by kernel_rfl
@[go_sem] theorem tun111 : (Go.Proofs.Tryz.prog.underlying 111).isSome = true := by kernel_rfl
@[go_sem] theorem tsz112 : tsize Go.Proofs.Tryz.prog 112 = some 2 := by kernel_rfl
@[go_sem] theorem tby112 : tbytes Go.Proofs.Tryz.prog 112 = some 24 := by kernel_rfl
@[go_sem] theorem tag112 : tagg Go.Proofs.Tryz.prog 112 = some true := by kernel_rfl
@[go_sem] theorem tze112 : tzero Go.Proofs.Tryz.prog 112 = some (.agg [.str [], .bool false]) := by kernel_rfl
@[go_sem] theorem taz112 : azero Go.Proofs.Tryz.prog 112 = some [.str [], .bool false] := by kernel_rfl
@[go_sem] theorem tar112 : tarr Go.Proofs.Tryz.prog 112 = none := by kernel_rfl
@[go_sem] theorem tfi112_0 : tfield Go.Proofs.Tryz.prog 112 0 = some (0, 9) := by kernel_rfl
@[go_sem] theorem tfi112_1 : tfield Go.Proofs.Tryz.prog 112 1 = some (1, 4) := by kernel_rfl
@[go_sem] theorem tpl112 : tplaces Go.Proofs.Tryz.prog 112 = some [(0, 1), (1, 1)] := by kernel_rfl
@[go_sem] theorem tun112 : (Go.Proofs.Tryz.prog.underlying 112).isSome = true := by kernel_rfl
@[go_sem] theorem tsz120 : tsize Go.Proofs.Tryz.prog 120 = some 1 := by kernel_rfl
@[go_sem] theorem tby120 : tbytes Go.Proofs.Tryz.prog 120 = some 8 := by kernel_rfl
@[go_sem] theorem tag120 : tagg Go.Proofs.Tryz.prog 120 = some false := by kernel_rfl
@[go_sem] theorem tze120 : tzero Go.Proofs.Tryz.prog 120 = some (.nilf) := by kernel_rfl
@[go_sem] theorem taz120 : azero Go.Proofs.Tryz.prog 120 = some [.nilf] := by kernel_rfl
@[go_sem] theorem tar120 : tarr Go.Proofs.Tryz.prog 120 = none := by kernel_rfl
@[go_sem] theorem tfu120 : tfunc Go.Proofs.Tryz.prog 120 = true := by kernel_rfl
@[go_sem] theorem tun120 : (Go.Proofs.Tryz.prog.underlying 120).isSome = true := by kernel_rfl
@[go_sem] theorem tsz124 : tsize Go.Proofs.Tryz.prog 124 = some 1 := by kernel_rfl
@[go_sem] theorem tby124 : tbytes Go.Proofs.Tryz.prog 124 = some 0 := by kernel_rfl
@[go_sem] theorem tag124 : tagg Go.Proofs.Tryz.prog 124 = some false := by kernel_rfl
@[go_sem] theorem tar124 : tarr Go.Proofs.Tryz.prog 124 = none := by kernel_rfl
@[go_sem] theorem tun124 : (Go.Proofs.Tryz.prog.underlying 124).isSome = true := by kernel_rfl
@[go_sem] theorem tsz126 : tsize Go.Proofs.Tryz.prog 126 = some 1 := by kernel_rfl
@[go_sem] theorem tby126 : tbytes Go.Proofs.Tryz.prog 126 = some 8 := by kernel_rfl
@[go_sem] theorem tag126 : tagg Go.Proofs.Tryz.prog 126 = some false := by kernel_rfl
@[go_sem] theorem tze126 : tzero Go.Proofs.Tryz.prog 126 = some (.int .u64 0) := by kernel_rfl
@[go_sem] theorem taz126 : azero Go.Proofs.Tryz.prog 126 = some [.int .u64 0] := by kernel_rfl
@[go_sem] theorem tar126 : tarr Go.Proofs.Tryz.prog 126 = none := by kernel_rfl
@[go_sem] theorem tin126 : tint Go.Proofs.Tryz.prog 126 = some .u64 := by kernel_rfl
@[go_sem] theorem tun126 : (Go.Proofs.Tryz.prog.underlying 126).isSome = true := by kernel_rfl
@[go_sem] theorem tsz140 : tsize Go.Proofs.Tryz.prog 140 = some 1 := by kernel_rfl
@[go_sem] theorem tby140 : tbytes Go.Proofs.Tryz.prog 140 = some 8 := by kernel_rfl
@[go_sem] theorem tag140 : tagg Go.Proofs.Tryz.prog 140 = some false := by kernel_rfl
@[go_sem] theorem tze140 : tzero Go.Proofs.Tryz.prog 140 = some (.nilp) := by kernel_rfl
@[go_sem] theorem taz140 : azero Go.Proofs.Tryz.prog 140 = some [.nilp] := by kernel_rfl
@[go_sem] theorem tar140 : tarr Go.Proofs.Tryz.prog 140 = none := by kernel_rfl
@[go_sem] theorem tpt140 : tptr Go.Proofs.Tryz.prog 140 = true := by kernel_rfl
@[go_sem] theorem tun140 : (Go.Proofs.Tryz.prog.underlying 140).isSome = true := by kernel_rfl
@[go_sem] theorem tsz141 : tsize Go.Proofs.Tryz.prog 141 = some 2 := by kernel_rfl
@[go_sem] theorem tby141 : tbytes Go.Proofs.Tryz.prog 141 = some 32 := by kernel_rfl
@[go_sem] theorem tag141 : tagg Go.Proofs.Tryz.prog 141 = some true := by kernel_rfl
@[go_sem] theorem tze141 : tzero Go.Proofs.Tryz.prog 141 = some (.agg [.nilp, .list [] .full]) := by kernel_rfl
@[go_sem] theorem taz141 : azero Go.Proofs.Tryz.prog 141 = some [.nilp, .list [] .full] := by kernel_rfl
@[go_sem] theorem tar141 : tarr Go.Proofs.Tryz.prog 141 = none := by kernel_rfl
@[go_sem] theorem tfi141_0 : tfield Go.Proofs.Tryz.prog 141 0 = some (0, 140) := by kernel_rfl
@[go_sem] theorem tfi141_1 : tfield Go.Proofs.Tryz.prog 141 1 = some (1, 83) := by kernel_rfl
@[go_sem] theorem tpl141 : tplaces Go.Proofs.Tryz.prog 141 = some [(0, 1), (1, 1)] := by kernel_rfl
@[go_sem] theorem tun141 : (Go.Proofs.Tryz.prog.underlying 141).isSome = true := by kernel_rfl
@[go_sem] theorem tsz142 : tsize Go.Proofs.Tryz.prog 142 = some 2 := by kernel_rfl
@[go_sem] theorem tby142 : tbytes Go.Proofs.Tryz.prog 142 = some 32 := by kernel_rfl
@[go_sem] theorem tag142 : tagg Go.Proofs.Tryz.prog 142 = some true := by kernel_rfl
@[go_sem] theorem tze142 : tzero Go.Proofs.Tryz.prog 142 = some (.agg [.nilp, .list [] .full]) := by kernel_rfl
@[go_sem] theorem taz142 : azero Go.Proofs.Tryz.prog 142 = some [.nilp, .list [] .full] := by kernel_rfl
@[go_sem] theorem tar142 : tarr Go.Proofs.Tryz.prog 142 = none := by kernel_rfl
@[go_sem] theorem tfi142_0 : tfield Go.Proofs.Tryz.prog 142 0 = some (0, 140) := by kernel_rfl
@[go_sem] theorem tfi142_1 : tfield Go.Proofs.Tryz.prog 142 1 = some (1, 83) := by kernel_rfl
@[go_sem] theorem tpl142 : tplaces Go.Proofs.Tryz.prog 142 = some [(0, 1), (1, 1)] := by kernel_rfl
@[go_sem] theorem tun142 : (Go.Proofs.Tryz.prog.underlying 142).isSome = true := by kernel_rfl
@[go_sem] theorem tsz143 : tsize Go.Proofs.Tryz.prog 143 = some 1 := by kernel_rfl
@[go_sem] theorem tby143 : tbytes Go.Proofs.Tryz.prog 143 = some 16 := by kernel_rfl
@[go_sem] theorem tag143 : tagg Go.Proofs.Tryz.prog 143 = some false := by kernel_rfl
@[go_sem] theorem tar143 : tarr Go.Proofs.Tryz.prog 143 = none := by kernel_rfl
@[go_sem] theorem tun143 : (Go.Proofs.Tryz.prog.underlying 143).isSome = true := by kernel_rfl
@[go_sem] theorem tsz144 : tsize Go.Proofs.Tryz.prog 144 = some 1 := by kernel_rfl
@[go_sem] theorem tby144 : tbytes Go.Proofs.Tryz.prog 144 = some 16 := by kernel_rfl
@[go_sem] theorem tag144 : tagg Go.Proofs.Tryz.prog 144 = some false := by kernel_rfl
@[go_sem] theorem tar144 : tarr Go.Proofs.Tryz.prog 144 = none := by kernel_rfl
@[go_sem] theorem tun144 : (Go.Proofs.Tryz.prog.underlying 144).isSome = true := by kernel_rfl
@[go_sem] theorem tsz145 : tsize Go.Proofs.Tryz.prog 145 = some 1 := by kernel_rfl
@[go_sem] theorem tby145 : tbytes Go.Proofs.Tryz.prog 145 = some 0 := by kernel_rfl
@[go_sem] theorem tag145 : tagg Go.Proofs.Tryz.prog 145 = some false := by kernel_rfl
@[go_sem] theorem tar145 : tarr Go.Proofs.Tryz.prog 145 = none := by kernel_rfl
@[go_sem] theorem tun145 : (Go.Proofs.Tryz.prog.underlying 145).isSome = true := by kernel_rfl
@[go_sem] theorem tsz155 : tsize Go.Proofs.Tryz.prog 155 = some 1 := by kernel_rfl
@[go_sem] theorem tby155 : tbytes Go.Proofs.Tryz.prog 155 = some 8 := by kernel_rfl
@[go_sem] theorem tag155 : tagg Go.Proofs.Tryz.prog 155 = some false := by kernel_rfl
@[go_sem] theorem tze155 : tzero Go.Proofs.Tryz.prog 155 = some (.nilf) := by kernel_rfl
@[go_sem] theorem taz155 : azero Go.Proofs.Tryz.prog 155 = some [.nilf] := by kernel_rfl
@[go_sem] theorem tar155 : tarr Go.Proofs.Tryz.prog 155 = none := by kernel_rfl
@[go_sem] theorem tfu155 : tfunc Go.Proofs.Tryz.prog 155 = true := by kernel_rfl
@[go_sem] theorem tun155 : (Go.Proofs.Tryz.prog.underlying 155).isSome = true := by kernel_rfl
@[go_sem] theorem tsz158 : tsize Go.Proofs.Tryz.prog 158 = some 1 := by kernel_rfl
@[go_sem] theorem tby158 : tbytes Go.Proofs.Tryz.prog 158 = some 8 := by kernel_rfl
@[go_sem] theorem tag158 : tagg Go.Proofs.Tryz.prog 158 = some false := by kernel_rfl
@[go_sem] theorem tze158 : tzero Go.Proofs.Tryz.prog 158 = some (.nilmap) := by kernel_rfl
@[go_sem] theorem taz158 : azero Go.Proofs.Tryz.prog 158 = some [.nilmap] := by kernel_rfl
@[go_sem] theorem tar158 : tarr Go.Proofs.Tryz.prog 158 = none := by kernel_rfl
@[go_sem] theorem tma158 : tmap Go.Proofs.Tryz.prog 158 = some (3, 87) := by kernel_rfl
@[go_sem] theorem tun158 : (Go.Proofs.Tryz.prog.underlying 158).isSome = true := by kernel_rfl
@[go_sem] theorem tsz159 : tsize Go.Proofs.Tryz.prog 159 = some 1 := by kernel_rfl
@[go_sem] theorem tby159 : tbytes Go.Proofs.Tryz.prog 159 = some 0 := by kernel_rfl
@[go_sem] theorem tag159 : tagg Go.Proofs.Tryz.prog 159 = some false := by kernel_rfl
@[go_sem] theorem tar159 : tarr Go.Proofs.Tryz.prog 159 = none := by kernel_rfl
@[go_sem] theorem tun159 : (Go.Proofs.Tryz.prog.underlying 159).isSome = true := by kernel_rfl
@[go_sem] theorem tsz161 : tsize Go.Proofs.Tryz.prog 161 = some 1 := by kernel_rfl
@[go_sem] theorem tby161 : tbytes Go.Proofs.Tryz.prog 161 = some 8 := by kernel_rfl
@[go_sem] theorem tag161 : tagg Go.Proofs.Tryz.prog 161 = some false := by kernel_rfl
@[go_sem] theorem tze161 : tzero Go.Proofs.Tryz.prog 161 = some (.nilf) := by kernel_rfl
@[go_sem] theorem taz161 : azero Go.Proofs.Tryz.prog 161 = some [.nilf] := by kernel_rfl
@[go_sem] theorem tar161 : tarr Go.Proofs.Tryz.prog 161 = none := by kernel_rfl
@[go_sem] theorem tfu161 : tfunc Go.Proofs.Tryz.prog 161 = true := by kernel_rfl
@[go_sem] theorem tun161 : (Go.Proofs.Tryz.prog.underlying 161).isSome = true := by kernel_rfl
@[go_sem] theorem tsz164 : tsize Go.Proofs.Tryz.prog 164 = some 1 := by kernel_rfl
@[go_sem] theorem tby164 : tbytes Go.Proofs.Tryz.prog 164 = some 8 := by kernel_rfl
@[go_sem] theorem tag164 : tagg Go.Proofs.Tryz.prog 164 = some false := by kernel_rfl
@[go_sem] theorem tze164 : tzero Go.Proofs.Tryz.prog 164 = some (.nilf) := by kernel_rfl
@[go_sem] theorem taz164 : azero Go.Proofs.Tryz.prog 164 = some [.nilf] := by kernel_rfl
@[go_sem] theorem tar164 : tarr Go.Proofs.Tryz.prog 164 = none := by kernel_rfl
@[go_sem] theorem tfu164 : tfunc Go.Proofs.Tryz.prog 164 = true := by kernel_rfl
@[go_sem] theorem tun164 : (Go.Proofs.Tryz.prog.underlying 164).isSome = true := by kernel_rfl
@[go_sem] theorem tsz165 : tsize Go.Proofs.Tryz.prog 165 = some 1 := by kernel_rfl
@[go_sem] theorem tby165 : tbytes Go.Proofs.Tryz.prog 165 = some 8 := by kernel_rfl
@[go_sem] theorem tag165 : tagg Go.Proofs.Tryz.prog 165 = some false := by kernel_rfl
@[go_sem] theorem tze165 : tzero Go.Proofs.Tryz.prog 165 = some (.nilf) := by kernel_rfl
@[go_sem] theorem taz165 : azero Go.Proofs.Tryz.prog 165 = some [.nilf] := by kernel_rfl
@[go_sem] theorem tar165 : tarr Go.Proofs.Tryz.prog 165 = none := by kernel_rfl
@[go_sem] theorem tfu165 : tfunc Go.Proofs.Tryz.prog 165 = true := by kernel_rfl
@[go_sem] theorem tun165 : (Go.Proofs.Tryz.prog.underlying 165).isSome = true := by kernel_rfl
@[go_sem] theorem tsz168 : tsize Go.Proofs.Tryz.prog 168 = some 1 := by kernel_rfl
@[go_sem] theorem tby168 : tbytes Go.Proofs.Tryz.prog 168 = some 8 := by kernel_rfl
@[go_sem] theorem tag168 : tagg Go.Proofs.Tryz.prog 168 = some false := by kernel_rfl
@[go_sem] theorem tze168 : tzero Go.Proofs.Tryz.prog 168 = some (.nilf) := by kernel_rfl
@[go_sem] theorem taz168 : azero Go.Proofs.Tryz.prog 168 = some [.nilf] := by kernel_rfl
@[go_sem] theorem tar168 : tarr Go.Proofs.Tryz.prog 168 = none := by kernel_rfl
@[go_sem] theorem tfu168 : tfunc Go.Proofs.Tryz.prog 168 = true := by kernel_rfl
@[go_sem] theorem tun168 : (Go.Proofs.Tryz.prog.underlying 168).isSome = true := by kernel_rfl
@[go_sem] theorem tsz174 : tsize Go.Proofs.Tryz.prog 174 = some 1 := by kernel_rfl
@[go_sem] theorem tby174 : tbytes Go.Proofs.Tryz.prog 174 = some 8 := by kernel_rfl
@[go_sem] theorem tag174 : tagg Go.Proofs.Tryz.prog 174 = some false := by kernel_rfl
@[go_sem] theorem tze174 : tzero Go.Proofs.Tryz.prog 174 = some (.nilf) := by kernel_rfl
@[go_sem] theorem taz174 : azero Go.Proofs.Tryz.prog 174 = some [.nilf] := by kernel_rfl
@[go_sem] theorem tar174 : tarr Go.Proofs.Tryz.prog 174 = none := by kernel_rfl
@[go_sem] theorem tfu174 : tfunc Go.Proofs.Tryz.prog 174 = true := by kernel_rfl
@[go_sem] theorem tun174 : (Go.Proofs.Tryz.prog.underlying 174).isSome = true := by kernel_rfl
@[go_sem] theorem tsz178 : tsize Go.Proofs.Tryz.prog 178 = some 1 := by kernel_rfl
@[go_sem] theorem tby178 : tbytes Go.Proofs.Tryz.prog 178 = some 8 := by kernel_rfl
@[go_sem] theorem tag178 : tagg Go.Proofs.Tryz.prog 178 = some false := by kernel_rfl
@[go_sem] theorem tze178 : tzero Go.Proofs.Tryz.prog 178 = some (.nilp) := by kernel_rfl
@[go_sem] theorem taz178 : azero Go.Proofs.Tryz.prog 178 = some [.nilp] := by kernel_rfl
@[go_sem] theorem tar178 : tarr Go.Proofs.Tryz.prog 178 = none := by kernel_rfl
@[go_sem] theorem tpt178 : tptr Go.Proofs.Tryz.prog 178 = true := by kernel_rfl
@[go_sem] theorem tun178 : (Go.Proofs.Tryz.prog.underlying 178).isSome = true := by kernel_rfl
@[go_sem] theorem tsz179 : tsize Go.Proofs.Tryz.prog 179 = some 1 := by kernel_rfl
@[go_sem] theorem tby179 : tbytes Go.Proofs.Tryz.prog 179 = some 0 := by kernel_rfl
@[go_sem] theorem tag179 : tagg Go.Proofs.Tryz.prog 179 = some false := by kernel_rfl
@[go_sem] theorem tar179 : tarr Go.Proofs.Tryz.prog 179 = none := by kernel_rfl
@[go_sem] theorem tun179 : (Go.Proofs.Tryz.prog.underlying 179).isSome = true := by kernel_rfl
@[go_sem] theorem tsz185 : tsize Go.Proofs.Tryz.prog 185 = some 1 := by kernel_rfl
@[go_sem] theorem tby185 : tbytes Go.Proofs.Tryz.prog 185 = some 8 := by kernel_rfl
@[go_sem] theorem tag185 : tagg Go.Proofs.Tryz.prog 185 = some false := by kernel_rfl
@[go_sem] theorem tze185 : tzero Go.Proofs.Tryz.prog 185 = some (.nilf) := by kernel_rfl
@[go_sem] theorem taz185 : azero Go.Proofs.Tryz.prog 185 = some [.nilf] := by kernel_rfl
@[go_sem] theorem tar185 : tarr Go.Proofs.Tryz.prog 185 = none := by kernel_rfl
@[go_sem] theorem tfu185 : tfunc Go.Proofs.Tryz.prog 185 = true := by kernel_rfl
@[go_sem] theorem tun185 : (Go.Proofs.Tryz.prog.underlying 185).isSome = true := by kernel_rfl
@[go_sem] theorem tsz186 : tsize Go.Proofs.Tryz.prog 186 = some 1 := by kernel_rfl
@[go_sem] theorem tby186 : tbytes Go.Proofs.Tryz.prog 186 = some 0 := by kernel_rfl
@[go_sem] theorem tag186 : tagg Go.Proofs.Tryz.prog 186 = some false := by kernel_rfl
@[go_sem] theorem tar186 : tarr Go.Proofs.Tryz.prog 186 = none := by kernel_rfl
@[go_sem] theorem tun186 : (Go.Proofs.Tryz.prog.underlying 186).isSome = true := by kernel_rfl
@[go_sem] theorem tsz188 : tsize Go.Proofs.Tryz.prog 188 = some 1 := by kernel_rfl
@[go_sem] theorem tby188 : tbytes Go.Proofs.Tryz.prog 188 = some 8 := by kernel_rfl
@[go_sem] theorem tag188 : tagg Go.Proofs.Tryz.prog 188 = some false := by kernel_rfl
@[go_sem] theorem tze188 : tzero Go.Proofs.Tryz.prog 188 = some (.nilf) := by kernel_rfl
@[go_sem] theorem taz188 : azero Go.Proofs.Tryz.prog 188 = some [.nilf] := by kernel_rfl
@[go_sem] theorem tar188 : tarr Go.Proofs.Tryz.prog 188 = none := by kernel_rfl
@[go_sem] theorem tfu188 : tfunc Go.Proofs.Tryz.prog 188 = true := by kernel_rfl
@[go_sem] theorem tun188 : (Go.Proofs.Tryz.prog.underlying 188).isSome = true := by kernel_rfl
@[go_sem] theorem tsz189 : tsize Go.Proofs.Tryz.prog 189 = some 3 := by kernel_rfl
@[go_sem] theorem tby189 : tbytes Go.Proofs.Tryz.prog 189 = some 24 := by kernel_rfl
@[go_sem] theorem tag189 : tagg Go.Proofs.Tryz.prog 189 = some true := by kernel_rfl
@[go_sem] theorem tze189 : tzero Go.Proofs.Tryz.prog 189 = some (.agg [.int .i64 0, .int .i64 0, .int .i64 0]) := by kernel_rfl
@[go_sem] theorem taz189 : azero Go.Proofs.Tryz.prog 189 = some [.int .i64 0, .int .i64 0, .int .i64 0] := by kernel_rfl
@[go_sem] theorem tar189 : tarr Go.Proofs.Tryz.prog 189 = some (3, 3) := by kernel_rfl
@[go_sem] theorem tun189 : (Go.Proofs.Tryz.prog.underlying 189).isSome = true := by kernel_rfl
@[go_sem] theorem tsz192 : tsize Go.Proofs.Tryz.prog 192 = some 1 := by kernel_rfl
@[go_sem] theorem tby192 : tbytes Go.Proofs.Tryz.prog 192 = some 24 := by kernel_rfl
@[go_sem] theorem tag192 : tagg Go.Proofs.Tryz.prog 192 = some false := by kernel_rfl
@[go_sem] theorem tze192 : tzero Go.Proofs.Tryz.prog 192 = some (.list [] .full) := by kernel_rfl
@[go_sem] theorem taz192 : azero Go.Proofs.Tryz.prog 192 = some [.list [] .full] := by kernel_rfl
@[go_sem] theorem tel192 : telem Go.Proofs.Tryz.prog 192 = some 50 := by kernel_rfl
@[go_sem] theorem tar192 : tarr Go.Proofs.Tryz.prog 192 = none := by kernel_rfl
@[go_sem] theorem tun192 : (Go.Proofs.Tryz.prog.underlying 192).isSome = true := by kernel_rfl
@[go_sem] theorem tsz196 : tsize Go.Proofs.Tryz.prog 196 = some 1 := by kernel_rfl
@[go_sem] theorem tby196 : tbytes Go.Proofs.Tryz.prog 196 = some 8 := by kernel_rfl
@[go_sem] theorem tag196 : tagg Go.Proofs.Tryz.prog 196 = some false := by kernel_rfl
@[go_sem] theorem tze196 : tzero Go.Proofs.Tryz.prog 196 = some (.nilf) := by kernel_rfl
@[go_sem] theorem taz196 : azero Go.Proofs.Tryz.prog 196 = some [.nilf] := by kernel_rfl
@[go_sem] theorem tar196 : tarr Go.Proofs.Tryz.prog 196 = none := by kernel_rfl
@[go_sem] theorem tfu196 : tfunc Go.Proofs.Tryz.prog 196 = true := by kernel_rfl
@[go_sem] theorem tun196 : (Go.Proofs.Tryz.prog.underlying 196).isSome = true := by kernel_rfl
@[go_sem] theorem tsz198 : tsize Go.Proofs.Tryz.prog 198 = some 1 := by kernel_rfl
@[go_sem] theorem tby198 : tbytes Go.Proofs.Tryz.prog 198 = some 8 := by kernel_rfl
@[go_sem] theorem tag198 : tagg Go.Proofs.Tryz.prog 198 = some false := by kernel_rfl
@[go_sem] theorem tar198 : tarr Go.Proofs.Tryz.prog 198 = none := by kernel_rfl
@[go_sem] theorem tun198 : (Go.Proofs.Tryz.prog.underlying 198).isSome = true := by kernel_rfl
@[go_sem] theorem tsz201 : tsize Go.Proofs.Tryz.prog 201 = some 1 := by kernel_rfl
@[go_sem] theorem tby201 : tbytes Go.Proofs.Tryz.prog 201 = some 24 := by kernel_rfl
@[go_sem] theorem tag201 : tagg Go.Proofs.Tryz.prog 201 = some false := by kernel_rfl
@[go_sem] theorem tze201 : tzero Go.Proofs.Tryz.prog 201 = some (.list [] .full) := by kernel_rfl
@[go_sem] theorem taz201 : azero Go.Proofs.Tryz.prog 201 = some [.list [] .full] := by kernel_rfl
@[go_sem] theorem tel201 : telem Go.Proofs.Tryz.prog 201 = some 30 := by kernel_rfl
@[go_sem] theorem tar201 : tarr Go.Proofs.Tryz.prog 201 = none := by kernel_rfl
@[go_sem] theorem tun201 : (Go.Proofs.Tryz.prog.underlying 201).isSome = true := by kernel_rfl
@[go_sem] theorem tsz203 : tsize Go.Proofs.Tryz.prog 203 = some 1 := by kernel_rfl
@[go_sem] theorem tby203 : tbytes Go.Proofs.Tryz.prog 203 = some 8 := by kernel_rfl
@[go_sem] theorem tag203 : tagg Go.Proofs.Tryz.prog 203 = some false := by kernel_rfl
@[go_sem] theorem tze203 : tzero Go.Proofs.Tryz.prog 203 = some (.nilmap) := by kernel_rfl
@[go_sem] theorem taz203 : azero Go.Proofs.Tryz.prog 203 = some [.nilmap] := by kernel_rfl
@[go_sem] theorem tar203 : tarr Go.Proofs.Tryz.prog 203 = none := by kernel_rfl
@[go_sem] theorem tma203 : tmap Go.Proofs.Tryz.prog 203 = some (3, 4) := by kernel_rfl
@[go_sem] theorem tun203 : (Go.Proofs.Tryz.prog.underlying 203).isSome = true := by kernel_rfl
@[go_sem] theorem tsz205 : tsize Go.Proofs.Tryz.prog 205 = some 1 := by kernel_rfl
@[go_sem] theorem tby205 : tbytes Go.Proofs.Tryz.prog 205 = some 8 := by kernel_rfl
@[go_sem] theorem tag205 : tagg Go.Proofs.Tryz.prog 205 = some false := by kernel_rfl
@[go_sem] theorem tze205 : tzero Go.Proofs.Tryz.prog 205 = some (.nilf) := by kernel_rfl
@[go_sem] theorem taz205 : azero Go.Proofs.Tryz.prog 205 = some [.nilf] := by kernel_rfl
@[go_sem] theorem tar205 : tarr Go.Proofs.Tryz.prog 205 = none := by kernel_rfl
@[go_sem] theorem tfu205 : tfunc Go.Proofs.Tryz.prog 205 = true := by kernel_rfl
@[go_sem] theorem tun205 : (Go.Proofs.Tryz.prog.underlying 205).isSome = true := by kernel_rfl
@[go_sem] theorem tsz206 : tsize Go.Proofs.Tryz.prog 206 = some 1 := by kernel_rfl
@[go_sem] theorem tby206 : tbytes Go.Proofs.Tryz.prog 206 = some 8 := by kernel_rfl
@[go_sem] theorem tag206 : tagg Go.Proofs.Tryz.prog 206 = some false := by kernel_rfl
@[go_sem] theorem tze206 : tzero Go.Proofs.Tryz.prog 206 = some (.nilf) := by kernel_rfl
@[go_sem] theorem taz206 : azero Go.Proofs.Tryz.prog 206 = some [.nilf] := by kernel_rfl
@[go_sem] theorem tar206 : tarr Go.Proofs.Tryz.prog 206 = none := by kernel_rfl
@[go_sem] theorem tfu206 : tfunc Go.Proofs.Tryz.prog 206 = true := by kernel_rfl
@[go_sem] theorem tun206 : (Go.Proofs.Tryz.prog.underlying 206).isSome = true := by kernel_rfl
@[go_sem] theorem tsz209 : tsize Go.Proofs.Tryz.prog 209 = some 1 := by kernel_rfl
@[go_sem] theorem tby209 : tbytes Go.Proofs.Tryz.prog 209 = some 8 := by kernel_rfl
@[go_sem] theorem tag209 : tagg Go.Proofs.Tryz.prog 209 = some false := by kernel_rfl
@[go_sem] theorem tze209 : tzero Go.Proofs.Tryz.prog 209 = some (.nilf) := by kernel_rfl
@[go_sem] theorem taz209 : azero Go.Proofs.Tryz.prog 209 = some [.nilf] := by kernel_rfl
@[go_sem] theorem tar209 : tarr Go.Proofs.Tryz.prog 209 = none := by kernel_rfl
@[go_sem] theorem tfu209 : tfunc Go.Proofs.Tryz.prog 209 = true := by kernel_rfl
@[go_sem] theorem tun209 : (Go.Proofs.Tryz.prog.underlying 209).isSome = true := by kernel_rfl
@[go_sem] theorem tsz224 : tsize Go.Proofs.Tryz.prog 224 = some 1 := by kernel_rfl
@[go_sem] theorem tby224 : tbytes Go.Proofs.Tryz.prog 224 = some 4 := by kernel_rfl
@[go_sem] theorem tag224 : tagg Go.Proofs.Tryz.prog 224 = some false := by kernel_rfl
@[go_sem] theorem tze224 : tzero Go.Proofs.Tryz.prog 224 = some (.int .u32 0) := by kernel_rfl
@[go_sem] theorem taz224 : azero Go.Proofs.Tryz.prog 224 = some [.int .u32 0] := by kernel_rfl
@[go_sem] theorem tar224 : tarr Go.Proofs.Tryz.prog 224 = none := by kernel_rfl
@[go_sem] theorem tin224 : tint Go.Proofs.Tryz.prog 224 = some .u32 := by kernel_rfl
@[go_sem] theorem tun224 : (Go.Proofs.Tryz.prog.underlying 224).isSome = true := by kernel_rfl
end Go.Am
