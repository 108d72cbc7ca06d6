/- Texts of the proof, joined: WireP4. -/
import Derived.Test.YtcdajbmgoafnkaaGreatQcWireP3

