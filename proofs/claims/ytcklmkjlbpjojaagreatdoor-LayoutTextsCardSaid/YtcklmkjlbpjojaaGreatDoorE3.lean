/- Layout: Split's success (out of RE3's). -/
import Derived.Test.YtcklmkjlbpjojaaGreatDoorRE3
namespace Go.Proofs.YtcklmkjlbpjojaaGreatDoor
open Go.RowKit
set_option linter.unusedSimpArgs false
set_option linter.unusedVariables false

theorem split_ok_true (base tr : Nat) (c : List Fr) (l : T) (pane other size : Int) (before : Bool) (w : World) (hT : Tr base w tr (plug c l)) (hbase : base ≤ w.heap.size) (hl : (plug c l).leaves.length < 32)
    (hf : (plug c l).find pane = some l) (hlk : l.ks = []) (ho : 1 ≤ other) (hof : (plug c l).find other = none) (hs0 : 0 ≤ size) (hs1 : size ≤ l.n.a - 2) (hz0 : 3 ≤ l.n.a) (hz1 : l.n.a ≤ 1000) (hw01 : (plug c l).w01) :
    Calls Tryz.prog 9 #[ptr tr, .int .i64 pane, .int .i64 other, .bool true, .int .i64 size, .bool before] w (SplitS base tr w c l 0 other (l.n.a - ((if size = 0 then (l.n.a - 1) / 2 else size) + 1)) l.n.b (if size = 0 then (l.n.a - 1) / 2 else size) l.n.b before) := 
  (split_off_true base tr c l pane other size before w hT hbase hl hf hlk ho hof hs0 hs1 hz0 hz1 hw01).mono fun _ _ h => h.1
end Go.Proofs.YtcklmkjlbpjojaaGreatDoor
