/- Texts of the proof, joined: DiskP3. -/
import Derived.Test.YtcdajbmgoafnkaaQeDiskP2

