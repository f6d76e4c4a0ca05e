/- The tables of the calls that are run once a key. -/
import Derived.Test.YtaokhbanpfmkmaaGreatNg
import Derived.KernelRfl
namespace Go.Proofs.YtaokhbanpfmkmaaGreat
set_option linter.unusedVariables false
noncomputable def krunE1 : Ev.RunK := Ev.runE Tryz.prog Ev.tabNo 100000
noncomputable def ktabE1 : Ev.Tab := Ev.tabCons 9850501549099179747799252619772183143504421359635792055199946855159116918689315752978432089139719244856979506593792 krunE1 Ev.tabNo
theorem ktabE1_ok : Ev.TabOk Tryz.prog ktabE1 := Ev.tabCons_ok (Ev.runE_ok mixed Ev.tabNo_ok) Ev.tabNo_ok
noncomputable def krunE2 : Ev.RunK := Ev.runE Tryz.prog ktabE1 100000
noncomputable def ktabE2 : Ev.Tab := Ev.tabCons 1560874275157996288982654502490968669663678919446934173025278257851544462430108859786173182447857852470507000493084098079185540484956957388570624 krunE2 ktabE1
theorem ktabE2_ok : Ev.TabOk Tryz.prog ktabE2 := Ev.tabCons_ok (Ev.runE_ok mixed ktabE1_ok) ktabE1_ok
noncomputable def krunE3 : Ev.RunK := Ev.runE Tryz.prog ktabE2 100000
noncomputable def ktabE3 : Ev.Tab := Ev.tabCons 5545508618569640022798160058675015823623976283464842435471184827975484284305784378324951473483649311403056492223148319441980260352 krunE3 ktabE2
theorem ktabE3_ok : Ev.TabOk Tryz.prog ktabE3 := Ev.tabCons_ok (Ev.runE_ok mixed ktabE2_ok) ktabE2_ok
noncomputable def krunN3 : Ev.RunK := Ev.runN Tryz.prog ktabE2 100000 2000
noncomputable def ktabN3 : Ev.Tab := Ev.tabCons 102844034832575377634685573909834406561420991602098741459288064 krunN3 ktabE3
theorem ktabN3_ok : Ev.TabOk Tryz.prog ktabN3 := Ev.tabCons_ok (Ev.runN_ok mixed ktabE2_ok) ktabE3_ok
noncomputable def krunE4 : Ev.RunK := Ev.runE Tryz.prog ktabN3 100000
noncomputable def ktabE4 : Ev.Tab := Ev.tabCons 17088026657669766066269694829880475117049051879771963502551801803856147989329645587181935305687040 krunE4 ktabN3
theorem ktabE4_ok : Ev.TabOk Tryz.prog ktabE4 := Ev.tabCons_ok (Ev.runE_ok mixed ktabN3_ok) ktabN3_ok
noncomputable def krunE5 : Ev.RunK := Ev.runE Tryz.prog ktabE4 100000
noncomputable def ktabE5 : Ev.Tab := Ev.tabCons 30354664680058279948231756973680136982029591177673175758746906441658701425647026176 krunE5 ktabE4
theorem ktabE5_ok : Ev.TabOk Tryz.prog ktabE5 := Ev.tabCons_ok (Ev.runE_ok mixed ktabE4_ok) ktabE4_ok
noncomputable def krunN5 : Ev.RunK := Ev.runN Tryz.prog ktabE4 100000 2000
noncomputable def ktabN5 : Ev.Tab := Ev.tabCons 40564819207303340847894502572032 krunN5 ktabE5
theorem ktabN5_ok : Ev.TabOk Tryz.prog ktabN5 := Ev.tabCons_ok (Ev.runN_ok mixed ktabE4_ok) ktabE5_ok
noncomputable def krunE6 : Ev.RunK := Ev.runE Tryz.prog ktabN5 100000
noncomputable def ktabE6 : Ev.Tab := Ev.tabCons 80695308690215893426747474125094121080391856386169988959237252965424608922807223385322927322405662111760360117029044224 krunE6 ktabN5
theorem ktabE6_ok : Ev.TabOk Tryz.prog ktabE6 := Ev.tabCons_ok (Ev.runE_ok mixed ktabN5_ok) ktabN5_ok
noncomputable def krunE7 : Ev.RunK := Ev.runE Tryz.prog ktabE6 100000
noncomputable def ktabE7 : Ev.Tab := Ev.tabCons 18347988927920572092890452500201146984514358837210112841608780987982821491095670791828114107918116401971200 krunE7 ktabE6
theorem ktabE7_ok : Ev.TabOk Tryz.prog ktabE7 := Ev.tabCons_ok (Ev.runE_ok mixed ktabE6_ok) ktabE6_ok
noncomputable def krunE8 : Ev.RunK := Ev.runE Tryz.prog ktabE7 100000
noncomputable def ktabE8 : Ev.Tab := Ev.tabCons 7770675568902916283677847627294075626569627356208559383086416070598602161102375616512 krunE8 ktabE7
theorem ktabE8_ok : Ev.TabOk Tryz.prog ktabE8 := Ev.tabCons_ok (Ev.runE_ok mixed ktabE7_ok) ktabE7_ok
noncomputable def krunE9 : Ev.RunK := Ev.runE Tryz.prog ktabE8 100000
noncomputable def ktabE9 : Ev.Tab := Ev.tabCons 402653184 krunE9 ktabE8
theorem ktabE9_ok : Ev.TabOk Tryz.prog ktabE9 := Ev.tabCons_ok (Ev.runE_ok mixed ktabE8_ok) ktabE8_ok
noncomputable def ktab : Ev.Tab := Ev.tabTop 1560874275158001834491273152836150659607078189903039773466023005826045165933520046699397867821723890930060768655686890955242689537402711999283200 ktabE9
theorem ktab_ok : Ev.TabOk Tryz.prog ktab := Ev.tabTop_ok ktabE9_ok

end Go.Proofs.YtaokhbanpfmkmaaGreat
