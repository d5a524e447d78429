/- Bounds of a law's arguments, as the laws of addresses want them. Conditions: none. -/
import Derived.Test.YtploofmfghjijaaGreatTrW
import Derived.Test.YtploofmfghjijaaGreatScriptS
namespace Go.Tr
open Go
theorem u32_wf{M:Nat}{a:Int}(h:jK M (.int .u32) a):cd a:=by
 have h1:(0:Int)<=a:=h.1
 have h2:a<=4294967295:=h.2
 exact⟨h1,by omega⟩
theorem str_wf{M:Nat}{s:List UInt8}(h:jK M .str s):s.length<=M:=h
end Go.Tr
