/- Short names for the types of records, and for their zero values, as printed texts have them. Conditions: none. -/
namespace Go.Tr

abbrev TMac : Type := Int × Int × Int × Int × Int × Int
abbrev THold : Type := Int × List UInt8 × TMac
abbrev TEv : Type := Int × THold × (Int × Int) × Int × TMac × Int
abbrev TSight : Type := Int × TMac × Int
abbrev TKnown : Type := Int × List TSight
abbrev TCase : Type := Int × Int × Int × Int
abbrev TProbe : Type := Int × Int × Int × Int × Int
abbrev TSweep : Type := (Int × Int) × Int × Int
abbrev TState : Type := Int × Int × List THold × List TSweep × List TKnown × List TProbe × List TCase
abbrev TAct : Type := Int × TEv × List UInt8 × Int × Int
abbrev TCfg : Type := Int × Int × Int × Int × Int × Int × Int × Int × Int

@[reducible] def zMac : TMac := (0, 0, 0, 0, 0, 0)
@[reducible] def zHold : THold := (0, [], 0, 0, 0, 0, 0, 0)
@[reducible] def zEv : TEv := (0, (0, [], 0, 0, 0, 0, 0, 0), (0, 0), 0, (0, 0, 0, 0, 0, 0), 0)
@[reducible] def zSight : TSight := (0, (0, 0, 0, 0, 0, 0), 0)
@[reducible] def zProbe : TProbe := (0, 0, 0, 0, 0)
@[reducible] def zCase : TCase := (0, 0, 0, 0)
@[reducible] def zSweep : TSweep := ((0, 0), 0, 0)
@[reducible] def zAct : TAct := (0, (0, (0, [], 0, 0, 0, 0, 0, 0), (0, 0), 0, (0, 0, 0, 0, 0, 0), 0), [], 0, 0)

end Go.Tr
