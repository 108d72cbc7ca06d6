/- Texts of the proof, joined: WireP3. -/
import Derived.Test.YtcdajbmgoafnkaaQeWireP2

